/- Contracts of the reference of layer 8: Check, Ends, Size, Few.
   Contracts of the references' Size, small, Few.
   Contract of the reference's Between.
   What can be reached from a vertex, in rounds. No program in sight.
   Contract of the reference's Reached. -/
import Derived.Test.YtgcnijmmjlfabaaGreatDoorK02
import Derived.Lib.MinMax
set_option maxRecDepth 100000
set_option maxHeartbeats 16000000
namespace Go.Proofs.YtgcnijmmjlfabaaGreatDoor
open Go.RowKit Go.Shelf

theorem lastE_succ {es : List Tri} {k : Nat} {t : Tri} (h : es[k]? = some t) : lastE es (k + 1) = (t.1, t.2.1) := by
  show ((es.getD k (0, 0, 0)).1, (es.getD k (0, 0, 0)).2.1) = _
  rw [List.getD_eq_getElem?_getD, h]; rfl
theorem rgCheck_any (g : Value) (n : Int) (es : List Tri) (w : World) (hg : GV w g n es) :
    Calls Tryz.prog 36 #[g] w fun e w' => e = .returned (.int .i64 (gcheckE n es)) ∧ Below w.heap.size w w' := by
  obtain ⟨A, c, rfl, hlc, hc, hcell⟩ := hg.open_
  obtain ⟨W0, hW0⟩ : ∃ W0, W0 = w.alloc (.cells #[.int .i64 n, .slice A es.length c] 24) := ⟨_, rfl⟩
  have hb0 : Below w.heap.size w W0 := by rw [hW0]; exact below_alloc w _
  have hx0 : BL W0 w.heap.size 24 [.int .i64 n, .slice A es.length c] := by rw [hW0]; exact BL.new' w _ _
  have HX0 := Lib.hid hx0
  have HB0 := Lib.hid hb0
  have HG := Lib.hid hg
  have HW0 := Lib.hid hW0
  have HCe := Lib.hid hcell
  have x0 := hx0.cell 0
  have x1 := hx0.cell 1
  rw [hW0] at x0 x1
  clear hg hcell hb0 hx0 hW0
  by_cases h1 : n < 1
  · have HR : Hid (gcheckE n es = 2) := by show _ = _; unfold gcheckE; rw [if_pos (.inl h1)]
    go_enter Tryz.func36, Tryz.ntmps36
    go_wp2
    go_ret
    exact ⟨ret_i HR.out.symm, below_alloc w _⟩
  by_cases h2 : 12 < n
  · have HR : Hid (gcheckE n es = 2) := by show _ = _; unfold gcheckE; rw [if_pos (.inr h2)]
    go_enter Tryz.func36, Tryz.ntmps36
    go_wp2
    go_ret
    exact ⟨ret_i HR.out.symm, below_alloc w _⟩
  have HE := Lib.hid (show gcheckE n es = gcheckL n (-1, -1) es by unfold gcheckE; rw [if_neg (by omega)])
  go_enter Tryz.func36, Tryz.ntmps36
  go_wp2_with fail
  rw [← HW0.out]
  clear x0 x1
  go_loopw [3] (fun i wr => ∃ k : Nat, k ≤ es.length ∧ i = .int .i64 (k : Int) ∧ Hid (gcheckL n (lastE es k) (es.drop k) = gcheckL n (-1, -1) es) ∧ Hid (BL wr w.heap.size 24 [.int .i64 n, .slice A es.length c]) ∧ Hid (Below w.heap.size w wr)) (fun i _ => es.length - (intOf i).toNat)
  case atStart => exact ⟨0, Nat.zero_le _, rfl, rfl, HX0.out, HB0.out⟩
  case round =>
    obtain ⟨k, hk, rfl, hE, hx, hb⟩ := hrel
    have y0 := hx.out.cell 0
    have y1 := hx.out.cell 1
    by_cases hlt : k < es.length
    · obtain ⟨t, ht⟩ : ∃ t, es[k]? = some t := ⟨es[k], List.getElem?_eq_getElem hlt⟩
      have HEd := Lib.hid (edge_any _ n es k t wr (HG.out.below hb.out) ht)
      have hd : es.drop k = t :: es.drop (k + 1) := by
        obtain ⟨h, rfl⟩ := List.getElem?_eq_some_iff.1 ht
        exact List.drop_eq_getElem_cons h
      by_cases ho : okE n (lastE es k) t = 0
      · rw [ho] at HEd
        have HE2 : Hid (gcheckL n (lastE es (k + 1)) (es.drop (k + 1)) = gcheckL n (-1, -1) es) := by
          show _ = _
          rw [← hE.out, hd, lastE_succ ht]
          conv => rhs; unfold gcheckL
          rw [if_neg (by simpa using ho)]
        clear ho ht hd hE
        go_wp2_with fail
        refine HEd.out.mono ?_
        rintro e w1 ⟨rfl, hb1⟩
        have HX1 := Lib.hid (hx.out.bel hb1)
        have HB1 := Lib.hid (hb.out.trans (hb1.mono hb.out.size))
        clear hb1
        go_wp2
        go_roundw
        case rel => exact ⟨k + 1, by omega, by go_num, HE2.out, HX1.out, HB1.out⟩
        case measure => simp [intOf]; omega
      · obtain ⟨r, hr⟩ : ∃ r, r = okE n (lastE es k) t := ⟨_, rfl⟩
        have HR : Hid (gcheckE n es = r) := by
          show _ = _
          rw [HE.out, ← hE.out, hd]
          unfold gcheckL
          rw [if_pos ho, hr]
        rw [← hr] at HEd ho
        have t1 : (r != 0) = true := by simpa using ho
        clear ho ht hd hE hr
        go_wp2_with fail
        refine HEd.out.mono ?_
        rintro e w1 ⟨rfl, hb1⟩
        have HB1 := Lib.hid (hb.out.trans (hb1.mono hb.out.size))
        clear hb1
        go_wp2
        go_ret
        exact ⟨ret_i HR.out.symm, HB1.out⟩
    · have HR : Hid (gcheckE n es = 0) := by
        show _ = _
        rw [HE.out, ← hE.out, List.drop_of_length_le (by omega)]
        rfl
      go_wp2
      go_ret
      exact ⟨ret_i HR.out.symm, hb.out⟩
theorem step_append' {P : Program} {w : World} {ops : Array Oper} {o : Oper} {a : Act} {K : Act → World → Prop} {Q : Exit → Act → World → Prop} {E : Prop} (hgd : o.guard = none) (s x : Operand) (t : TypeId)
    (ho : o.op = .call { callee := .builtin .append, args := #[s, x], argTypes := #[t, t] }) (vs vx : Value) (hs : a.eval s = vs) (hx : a.eval x = vx) (v' : Value) (w' : World)
    (hrun : (Builtin.append_ #[t, t] o.type #[vs, vx]).run P w = .ok v' w') (h : K (a.put o.dst v') w') : if Region.wanted o (yielded ops a.tmps) = true then Oper.wp P o a w K Q else E := by
  have hw : Region.wanted o (yielded ops a.tmps) = true := by simp [Region.wanted, hgd]
  rw [if_pos hw]
  unfold Oper.wp execOp
  simp only [ho, resolve, invoke, builtin, Sem.run_bind, Sem.run_pure, Result.andThen_ok, List.map_toArray, List.map_cons, List.map_nil, hs, hx, hrun]
  exact h
theorem rEnds_any (g : Value) (n : Nat) (es : List Tri) (w : World) (hg : GV w g n es) (hE : Edges n es) (hlen : (singL es).length ≤ 900000) :
    Calls Tryz.prog 60 #[g] w fun e w' => ∃ v, e = .returned v ∧ OP w' w.heap.size v (singL es) ∧ Below w.heap.size w w' := by
  obtain ⟨A, c, rfl, hlc, hc, hcell⟩ := hg.open_
  obtain ⟨i1, hi1, hz01, hz11, hz21⟩ := info_parts' pair_info
  obtain ⟨W0, hW0⟩ : ∃ W0, W0 = w.alloc (.cells #[.int .i64 (n : Int), .slice A es.length c] 24) := ⟨_, rfl⟩
  have hb0 : Below w.heap.size w W0 := by rw [hW0]; exact below_alloc w _
  have hx0 : BL W0 w.heap.size 24 [.int .i64 (n : Int), .slice A es.length c] := by rw [hW0]; exact BL.new' w _ _
  have HX0 := Lib.hid hx0
  have HB0 := Lib.hid hb0
  have HW0 := Lib.hid hW0
  have HCe := Lib.hid hcell
  have HE := Lib.hid hE
  have HLen := Lib.hid hlen
  clear hg hcell hb0 hx0 hW0 hE hlen
  go_enter Tryz.func60, Tryz.ntmps60
  go_wp2_with fail
  rw [← HW0.out]
  go_loopw [3, 4] (fun vo i wr => ∃ j : Nat, j ≤ es.length ∧ i = .int .i64 (j : Int) ∧ Hid (OP wr (w.heap.size + 1) vo (singL (es.take j))) ∧ Hid (BL wr w.heap.size 24 [.int .i64 (n : Int), .slice A es.length c]) ∧ Hid (Below w.heap.size w wr)) (fun _ i _ => es.length - (intOf i).toNat)
  case atStart => exact ⟨0, Nat.zero_le _, rfl, OP.nil_ _ _, HX0.out, HB0.out⟩
  case round =>
    obtain ⟨j, hj, rfl, ho, hx, hb⟩ := hrel
    have y1 := hx.out.cell 1
    by_cases hlt : j < es.length
    · obtain ⟨ad, a, b, m, rfl, hab, ht, c1, c2, c3⟩ := HCe.out j hlt
      have hme := HE.out.mult _ (getD_tri ht)
      simp only at hme
      obtain ⟨mn, rfl⟩ := Int.eq_ofNat_of_zero_le (show 0 ≤ m by omega)
      have HT1 := Lib.hid (sing_take ht)
      have HT2 := Lib.hid (sing_split ht)
      have hmn : mn ≤ 50 := by omega
      obtain ⟨A1, c1', rfl⟩ := ho.out.shape
      have HO := ho
      have HX := hx
      have HB := hb
      clear ht ho hx hb hme
      go_wp2_with fail
      go_loopw [3, 5] (fun vo i wr => ∃ v : Nat, v ≤ mn ∧ i = .int .i64 (v : Int) ∧ Hid (OP wr (w.heap.size + 1) vo (singL (es.take j) ++ List.replicate v (a, b))) ∧ Hid (BL wr w.heap.size 24 [.int .i64 (n : Int), .slice (some ad) es.length c]) ∧ Hid (Below w.heap.size w wr)) (fun _ i _ => mn - (intOf i).toNat)
      case atStart => exact ⟨0, Nat.zero_le _, rfl, by simpa [Hid] using HO.out, HX.out, HB.out⟩
      case round =>
        clear y1
        obtain ⟨v, hv, rfl, ho, hx, hb⟩ := hrel
        have y1 := hx.out.cell 1
        obtain ⟨d1, d2, d3⟩ := tri_cells hb.out hab c1 c2 c3
        by_cases hvl : v < mn
        · obtain ⟨A2, c2', rfl⟩ := ho.out.shape
          have hpl : (singL (es.take j) ++ List.replicate v (a, b)).length < 900000 := by
            have h := HLen.out
            rw [HT2.out] at h
            simp [oneL] at h ⊢
            omega
          have hod := OP.below (w' := wr.drew) ho.out (Below.refl _ _).drew
          have hbs := hb.out.size
          have hxl := hx.out.lt
          obtain ⟨g2, cap2, w', hrun, hown, hgr, hat⟩ := run_append_pair (P := Tryz.prog) wr.drew 101 101 i1 _ 16 Tryz.underlying101 hi1 hz01 hz11 hz21 (by omega) rfl (w.heap.size + 1) _ _ hod a b (by omega) hxl
          have hst : singL (es.take j) ++ List.replicate v (a, b) ++ [(a, b)] = singL (es.take j) ++ List.replicate (v + 1) (a, b) := by rw [List.append_assoc, List.replicate_succ']
          rw [hst] at hown
          have hlen1 : (singL (es.take j) ++ List.replicate v (a, b)).length + 1 = (singL (es.take j) ++ List.replicate (v + 1) (a, b)).length := by simp; omega
          have HX3 : Hid (BL w' w.heap.size 24 [.int .i64 (n : Int), .slice (some ad) es.length c]) := BL.grown (w := wr.drew.alloc (.cells #[.int .i64 a, .int .i64 b] 141)) (BL.alloc (BL.drew hx.out) _) hgr (fun e => by have := (hod.block_ e).choose_spec.2.1; omega)
          have HB3 : Hid (Below w.heap.size w w') := by
            have h1 : Below w.heap.size w wr.drew := hb.out.drew
            exact (h1.alloc hbs _).grown hgr (by simp; omega) (fun k hk => by have := (hod.block_ hk).choose_spec.2.1; omega)
          have HO3 := Lib.hid hown
          have HS0 : Hid (wr.drew.cell? ⟨w.heap.size, 1, none⟩ = some (.slice (some ad) es.length c) ∧ wr.drew.cell? (ad.add (j * 3)) = some (.int .i64 a) ∧ wr.drew.cell? ⟨(ad.add (j * 3)).block, (ad.add (j * 3)).off + 1, none⟩ = some (.int .i64 b)) := ⟨y1, d1, d2⟩
          have hba : Below wr.heap.size wr (wr.alloc (.cells #[.int .i64 a, .int .i64 b] 141)).drew := (below_alloc wr _).drew
          have habr : ad.block < wr.heap.size := by omega
          have HS1 : Hid ((wr.alloc (.cells #[.int .i64 a, .int .i64 b] 141)).drew.cell? ⟨w.heap.size, 1, none⟩ = some (.slice (some ad) es.length c) ∧ (wr.alloc (.cells #[.int .i64 a, .int .i64 b] 141)).drew.cell? (ad.add (j * 3)) = some (.int .i64 a) ∧ (wr.alloc (.cells #[.int .i64 a, .int .i64 b] 141)).drew.cell? ⟨(ad.add (j * 3)).block, (ad.add (j * 3)).off + 1, none⟩ = some (.int .i64 b) ) :=
            ⟨(hx.out.bel hba).cell 1, (hba.cell (by rw [block_of_add]; exact habr)).trans d1, (hba.cell (p := ⟨(ad.add (j * 3)).block, (ad.add (j * 3)).off + 1, none⟩) (by show (ad.add (j * 3)).block < _; rw [block_of_add]; exact habr)).trans d2⟩
          obtain ⟨e1, e2, -⟩ := tri_cells HB3.out hab c1 c2 c3
          have HS2 : Hid (w'.cell? ⟨w.heap.size, 1, none⟩ = some (.slice (some ad) es.length c) ∧ w'.cell? (ad.add (j * 3)) = some (.int .i64 a) ∧ w'.cell? ⟨(ad.add (j * 3)).block, (ad.add (j * 3)).off + 1, none⟩ = some (.int .i64 b)) := ⟨HX3.out.cell 1, e1, e2⟩
          have hrunB := hrun
          change (Builtin.append_ #[101, 101] 101 #[_, .slice (some ⟨wr.heap.size, 0, none⟩) 1 1]).run Tryz.prog (wr.drew.alloc (.cells #[.int .i64 a, .int .i64 b] 141)) = _ at hrunB
          change (Builtin.append_ #[101, 101] 101 _).run Tryz.prog (wr.alloc (.cells #[.int .i64 a, .int .i64 b] 141)).drew = _ at hrun
          change (Builtin.append_ #[101, 101] 101 #[_, .slice (some ⟨wr.heap.size, 0, none⟩) 1 1]).run Tryz.prog _ = _ at hrun
          have hj0 : (0 : Int) ≤ (j : Int) := by omega
          have hj1 : (j : Int) < (es.length : Int) := by omega
          obtain ⟨nv, hnv⟩ : ∃ nv, nv = Value.slice (some ⟨g2, 0, none⟩) ((singL (es.take j) ++ List.replicate v (a, b)).length + 1) cap2 := ⟨_, rfl⟩
          rw [← hnv] at hrun hrunB HO3
          obtain ⟨ln, hln⟩ : ∃ ln, ln = (singL (es.take j) ++ List.replicate v (a, b)).length := ⟨_, rfl⟩
          rw [← hln] at hrun hrunB ⊢
          clear ho hx hb hpl hod hbs hgr hat hown hst hlen1 hnv hln hxl hba e1 e2 habr
          go_wp2_with fail
          clear y1 d1 d2 d3
          have hcs := HS0.out
          obtain ⟨u1, u2, u3⟩ := hcs
          have hcs := HS1.out
          obtain ⟨u4, u5, u6⟩ := hcs
          go_region_law (refine step_append' rfl (.tmp 23) (.tmp 37) 101 rfl _ _ (by simp [Act.eval]) (by simp [Act.eval]) _ _ hrun ?_)
          all_goals
           go_wp2
           go_roundw
           case rel => exact ⟨v + 1, by omega, by go_num, HO3.out, HX3.out, HB3.out⟩
           case measure => simp [intOf]; omega
        · obtain rfl : v = mn := by omega
          have hh : singL (es.take j) ++ List.replicate v (a, b) = singL (es.take (j + 1)) := by rw [HT1.out]; simp [oneL]
          rw [hh] at ho
          clear hh
          go_wp2
          go_roundw
          case rel => exact ⟨j + 1, by omega, by go_num, ho.out, hx.out, hb.out⟩
          case measure => simp [intOf]; omega
    · have hje : es.take j = es := List.take_of_length_le (by omega)
      have HO3 := ho
      rw [hje] at HO3
      go_wp2
      go_ret
      exact ⟨_, rfl, OP.mono HO3.out (by omega), hb.out⟩
end Go.Proofs.YtgcnijmmjlfabaaGreatDoor

namespace Go.Proofs.YtgcnijmmjlfabaaGreatDoor
open Go.RowKit Go.Shelf

theorem sing_mult {es : List Tri} (h : ∀ t ∈ es, 0 ≤ t.2.2) : ((singL es).length : Int) = multS es := by
  rw [sing_len]
  induction es with
  | nil => rfl
  | cons t r ih =>
    have := ih fun x hx => h x (List.mem_cons_of_mem _ hx)
    have ht := h t (by simp)
    rw [multS_cons, ← this]
    simp only [List.map_cons, List.sum_cons]
    omega
theorem sing_le {n : Nat} {es : List Tri} (hE : Edges n es) : (singL es).length ≤ 50 * es.length := by
  rw [sing_len]
  have : ∀ l : List Tri, (∀ t ∈ l, t.2.2 ≤ 50) → (l.map fun t => t.2.2.toNat).sum ≤ 50 * l.length := by
    intro l
    induction l with
    | nil => intro _; simp
    | cons t r ih =>
      intro h
      have := ih fun x hx => h x (List.mem_cons_of_mem _ hx)
      have ht := h t (by simp)
      simp only [List.map_cons, List.sum_cons, List.length_cons]
      omega
  exact this es fun t ht => (hE.mult t ht).2
/-- What Few answers. -/
def fewB (n : Int) (es : List Tri) : Bool := if 40 < es.length then false else if gcheckE n es ≠ 0 then true else decide (n ≤ 6) && decide ((singL es).length ≤ 9)
theorem fewB_sm {n : Int} {es : List Tri} (h : fewB n es = true) : Sm n es := by
  intro hg
  unfold fewB at h
  by_cases h1 : 40 < es.length
  · rw [if_pos h1] at h; cases h
  · rw [if_neg h1, if_neg (by simpa using hg)] at h
    simp only [Bool.and_eq_true, decide_eq_true_eq] at h
    obtain ⟨m, rfl, _, _, hE⟩ := gcheckE_zero hg
    have := sing_mult (es := es) fun t ht => by have := hE.mult t ht; omega
    exact ⟨h.1, by omega⟩
theorem rSize_any (g : Value) (n : Nat) (es : List Tri) (w : World) (hg : GV w g n es) (hE : Edges n es) (hlen : es.length ≤ 40) :
    Calls Tryz.prog 39 #[g] w fun e w' => e = .returned (.int .i64 ((singL es).length : Nat)) ∧ Below w.heap.size w w' := by
  obtain ⟨A, c, rfl, -⟩ := hg.open_
  obtain ⟨W0, hW0⟩ : ∃ W0, W0 = w.alloc (.cells #[.int .i64 (n : Int), .slice A es.length c] 24) := ⟨_, rfl⟩
  have hb0 : Below w.heap.size w W0 := by rw [hW0]; exact below_alloc w _
  have hx0 : BL W0 w.heap.size 24 [.int .i64 (n : Int), .slice A es.length c] := by rw [hW0]; exact BL.new' w _ _
  have HEn := Lib.hid (rEnds_any _ n es W0 (hg.below hb0) hE (by have := sing_le hE; omega))
  have c0 := hx0.cell 0
  have c1 := hx0.cell 1
  have HB0 := Lib.hid hb0
  have HW0 := Lib.hid hW0
  rw [hW0] at c0 c1
  clear hg hb0 hx0 hW0 hE
  go_enter Tryz.func39, Tryz.ntmps39
  go_wp2_with fail
  rw [← HW0.out]
  refine HEn.out.mono ?_
  rintro e w1 ⟨v, rfl, ho, hb1⟩
  obtain ⟨A1, c1', rfl⟩ := ho.shape
  have HB1 := Lib.hid hb1
  clear ho hb1 c0 c1
  go_wp2
  go_ret
  exact ⟨rfl, HB0.out.trans (HB1.out.mono HB0.out.size)⟩
theorem rSmall_any (g : Value) (n : Int) (es : List Tri) (w : World) (hg : GV w g n es) :
    Calls Tryz.prog 22 #[g, .int .i64 6, .int .i64 9] w fun e w' => e = .returned (.bool (fewB n es)) ∧ Below w.heap.size w w' := by
  obtain ⟨A, c, rfl, hlc, hc, -⟩ := hg.open_
  obtain ⟨W0, hW0⟩ : ∃ W0, W0 = w.alloc (.cells #[.int .i64 n, .slice A es.length c] 24) := ⟨_, rfl⟩
  have hb0 : Below w.heap.size w W0 := by rw [hW0]; exact below_alloc w _
  have hx0 : BL W0 w.heap.size 24 [.int .i64 n, .slice A es.length c] := by rw [hW0]; exact BL.new' w _ _
  have hgc := rgCheck_any _ n es W0 (hg.below hb0)
  have c0 := hx0.cell 0
  have c1 := hx0.cell 1
  have HX0 := Lib.hid hx0
  have HG0 := Lib.hid (hg.below hb0)
  have HB0 := Lib.hid hb0
  have HW0 := Lib.hid hW0
  rw [hW0] at c0 c1
  clear hg hb0 hx0 hW0
  by_cases h1 : 40 < es.length
  · have HR : Hid (fewB n es = false) := by show _ = _; unfold fewB; rw [if_pos h1]
    go_enter Tryz.func22, Tryz.ntmps22
    go_wp2
    go_ret
    exact ⟨ret_b HR.out.symm, below_alloc w _⟩
  by_cases h2 : gcheckE n es = 0
  · rw [h2] at hgc
    have HGc := Lib.hid hgc
    obtain ⟨m, rfl, h12, _, hE⟩ := gcheckE_zero h2
    have H2 := Lib.hid h2
    have HFw : Hid (fewB m es = (decide ((m : Int) ≤ 6) && decide ((singL es).length ≤ 9))) := by show _ = _; unfold fewB; rw [if_neg h1, if_neg (by simpa using h2)]
    have HE := Lib.hid hE
    have HL : Hid (es.length ≤ 40) := by show _ ≤ _; omega
    clear h2 hE hgc
    go_enter Tryz.func22, Tryz.ntmps22
    go_wp2_with fail
    rw [← HW0.out]
    refine HGc.out.mono ?_
    rintro e w1 ⟨rfl, hb1⟩
    have hx1 := HX0.out.bel hb1
    have d0 := hx1.cell 0
    have d1 := hx1.cell 1
    have HSz := Lib.hid (rSize_any _ m es w1 (HG0.out.below hb1) HE.out HL.out)
    have HB1 := Lib.hid (HB0.out.trans (hb1.mono HB0.out.size))
    clear hb1 hx1 c0 c1
    by_cases h6 : (m : Int) ≤ 6
    · by_cases h9 : (singL es).length ≤ 9
      · have HR : Hid (fewB m es = true) := by show _ = _; rw [HFw.out]; simp [h6, h9]
        obtain ⟨l, hl⟩ : ∃ l, l = (singL es).length := ⟨_, rfl⟩
        rw [← hl] at HSz h9
        have h9' : (l : Int) ≤ 9 := by omega
        clear hl HFw h9
        go_wp2_with fail
        refine HSz.out.mono ?_
        rintro e w2 ⟨rfl, hb2⟩
        have HB2 := Lib.hid (HB1.out.trans (hb2.mono HB1.out.size))
        clear hb2
        go_wp2
        go_ret
        exact ⟨ret_b HR.out.symm, HB2.out⟩
      · have HR : Hid (fewB m es = false) := by show _ = _; rw [HFw.out]; simp [h9]
        obtain ⟨l, hl⟩ : ∃ l, l = (singL es).length := ⟨_, rfl⟩
        rw [← hl] at HSz h9
        have h9' : ¬ (l : Int) ≤ 9 := by omega
        clear hl HFw h9
        go_wp2_with fail
        refine HSz.out.mono ?_
        rintro e w2 ⟨rfl, hb2⟩
        have HB2 := Lib.hid (HB1.out.trans (hb2.mono HB1.out.size))
        clear hb2
        go_wp2
        go_ret
        exact ⟨ret_b (by rw [HR.out]; exact decide_eq_false (by omega)), HB2.out⟩
    · have HR : Hid (fewB m es = false) := by show _ = _; rw [HFw.out]; simp [h6]
      clear HFw
      go_wp2
      go_ret
      exact ⟨ret_b HR.out.symm, HB1.out⟩
  · obtain ⟨r, hr⟩ : ∃ r, r = gcheckE n es := ⟨_, rfl⟩
    have HR : Hid (fewB n es = true) := by show _ = _; unfold fewB; rw [if_neg h1, if_pos h2]
    rw [← hr] at hgc h2
    have HGc := Lib.hid hgc
    have t : (r != 0) = true := by simpa using h2
    clear hgc hr h2
    go_enter Tryz.func22, Tryz.ntmps22
    go_wp2_with fail
    rw [← HW0.out]
    refine HGc.out.mono ?_
    rintro e w1 ⟨rfl, hb1⟩
    have HB1 := Lib.hid (HB0.out.trans (hb1.mono HB0.out.size))
    clear hb1 c0 c1
    go_wp2
    go_ret
    exact ⟨ret_b HR.out.symm, HB1.out⟩
theorem rFew8_any (g : Value) (n : Int) (es : List Tri) (w : World) (hg : GV w g n es) :
    Calls Tryz.prog 7 #[g] w fun e w' => e = .returned (.bool (fewB n es)) ∧ Below w.heap.size w w' := by
  obtain ⟨A, c, rfl, -⟩ := hg.open_
  obtain ⟨W0, hW0⟩ : ∃ W0, W0 = w.alloc (.cells #[.int .i64 n, .slice A es.length c] 24) := ⟨_, rfl⟩
  have hb0 : Below w.heap.size w W0 := by rw [hW0]; exact below_alloc w _
  have hx0 : BL W0 w.heap.size 24 [.int .i64 n, .slice A es.length c] := by rw [hW0]; exact BL.new' w _ _
  have HC := Lib.hid (rSmall_any _ n es W0 (hg.below hb0))
  have c0 := hx0.cell 0
  have c1 := hx0.cell 1
  have HB0 := Lib.hid hb0
  have HW0 := Lib.hid hW0
  rw [hW0] at c0 c1
  clear hg hb0 hx0 hW0
  go_enter Tryz.func7, Tryz.ntmps7
  go_wp2_with fail
  rw [← HW0.out]
  refine HC.out.mono ?_
  rintro e w1 ⟨rfl, hb1⟩
  have HB1 := Lib.hid (HB0.out.trans (hb1.mono HB0.out.size))
  clear hb1 c0 c1
  go_wp2
  go_ret
  exact ⟨rfl, HB1.out⟩
end Go.Proofs.YtgcnijmmjlfabaaGreatDoor

namespace Go.Proofs.YtgcnijmmjlfabaaGreatDoor
open Go.RowKit Go.Shelf

/-- How often two vertices are joined, loops too. -/
def btwE : List Tri → Int → Int → Int
  | [], _, _ => 0
  | t :: r, a, b => if t.1 = min a b ∧ t.2.1 = max a b then t.2.2 else btwE r a b
theorem btw_le {n : Nat} {es : List Tri} (hE : Edges n es) (a b : Int) : 0 ≤ btwE es a b ∧ btwE es a b ≤ 50 := by
  have : ∀ l : List Tri, (∀ t ∈ l, 1 ≤ t.2.2 ∧ t.2.2 ≤ 50) → 0 ≤ btwE l a b ∧ btwE l a b ≤ 50 := by
    intro l
    induction l with
    | nil => intro _; exact ⟨Int.le_refl 0, by show (0 : Int) ≤ 50; omega⟩
    | cons t r ih =>
      intro h
      rw [btwE]
      split
      · have := h t (by simp); omega
      · exact ih fun x hx => h x (List.mem_cons_of_mem _ hx)
  exact this es hE.mult
theorem btw_wgt {n : Nat} {es : List Tri} (hE : Edges n es) {u v : Nat} (huv : u ≠ v) : btwE es (u : Int) (v : Int) = wgt es u v := by
  obtain ⟨hlo, -, hord⟩ := hE
  induction es with
  | nil => rfl
  | cons t r ih =>
    have hl := hlo t (by simp)
    rw [btwE, show wgt (t :: r) u v = ew t u v + wgt r u v from rfl]
    have ih' := ih (fun x hx => hlo x (List.mem_cons_of_mem _ hx)) (List.pairwise_cons.1 hord).2
    by_cases h : t.1 = min (u : Int) v ∧ t.2.1 = max (u : Int) v
    · rw [if_pos h]
      have e : ew t u v = t.2.2 := by unfold ew; rw [if_pos ⟨by omega, by omega⟩]
      have z : wgt r u v = 0 := by
        have hz : ∀ l : List Tri, (∀ s ∈ l, LexLt t s) → (∀ s ∈ l, s.1 ≤ s.2.1) → wgt l u v = 0 := by
          intro l
          induction l with
          | nil => intro _ _; rfl
          | cons s l ihl =>
            intro h1 h2
            have a1 := h1 s (by simp)
            have a2 := h2 s (by simp)
            unfold LexLt at a1
            rw [show wgt (s :: l) u v = ew s u v + wgt l u v from rfl, ihl (fun x hx => h1 x (List.mem_cons_of_mem _ hx)) (fun x hx => h2 x (List.mem_cons_of_mem _ hx))]
            unfold ew
            rw [if_neg (by omega)]; rfl
        exact hz r (List.pairwise_cons.1 hord).1 fun s hs => (hlo s (List.mem_cons_of_mem _ hs)).2.1
      omega
    · rw [if_neg h, ih']
      have e : ew t u v = 0 := by unfold ew; rw [if_neg (by omega)]
      omega
theorem between_any (g : Value) (n : Int) (es : List Tri) (a b : Int) (w : World) (hg : GV w g n es) :
    Calls Tryz.prog 129 #[g, .int .i64 a, .int .i64 b] w fun e w' => e = .returned (.int .i64 (btwE es a b)) ∧ Below w.heap.size w w' := by
  obtain ⟨A, c, rfl, hlc, hc, hcell⟩ := hg.open_
  obtain ⟨W0, hW0⟩ : ∃ W0, W0 = w.alloc (.cells #[.int .i64 n, .slice A es.length c] 24) := ⟨_, rfl⟩
  have hb0 : Below w.heap.size w W0 := by rw [hW0]; exact below_alloc w _
  have hx0 : BL W0 w.heap.size 24 [.int .i64 n, .slice A es.length c] := by rw [hW0]; exact BL.new' w _ _
  have HX0 := Lib.hid hx0
  have HB0 := Lib.hid hb0
  have HW0 := Lib.hid hW0
  have HCe := Lib.hid hcell
  clear hg hcell hb0 hx0 hW0
  go_enter Tryz.func129, Tryz.ntmps129
  go_wp2_with fail
  rw [← HW0.out]
  go_loopw [7] (fun i wr => ∃ k : Nat, k ≤ es.length ∧ i = .int .i64 (k : Int) ∧ Hid (btwE (es.drop k) a b = btwE es a b) ∧ Hid (BL wr w.heap.size 24 [.int .i64 n, .slice A es.length c]) ∧ Hid (Below w.heap.size w wr)) (fun i _ => es.length - (intOf i).toNat)
  case atStart => exact ⟨0, Nat.zero_le _, rfl, rfl, HX0.out, HB0.out⟩
  case round =>
    obtain ⟨k, hk, rfl, hE, hx, hb⟩ := hrel
    have y1 := hx.out.cell 1
    by_cases hlt : k < es.length
    · obtain ⟨ad, ea, eb, m, rfl, hab, ht, c1, c2, c3⟩ := HCe.out k hlt
      obtain ⟨d1, d2, d3⟩ := tri_cells hb.out hab c1 c2 c3
      have hd : es.drop k = (ea, eb, m) :: es.drop (k + 1) := by
        obtain ⟨h, h'⟩ := List.getElem?_eq_some_iff.1 ht.out
        rw [← h']; exact List.drop_eq_getElem_cons h
      have HB1 := Lib.hid (hb.out.trans ((below_alloc wr (.cells #[.int .i64 ea, .int .i64 eb, .int .i64 m] 52)).mono hb.out.size))
      have HX1 := Lib.hid (hx.out.bel (below_alloc wr (.cells #[.int .i64 ea, .int .i64 eb, .int .i64 m] 52)))
      have hrec : btwE (es.drop k) a b = if ea = min a b ∧ eb = max a b then m else btwE (es.drop (k + 1)) a b := by rw [hd, btwE]
      have habr : ad.block < wr.heap.size := by have := hb.out.size; omega
      have hxl := hx.out.lt
      clear hd ht c1 c2 c3
      by_cases h1 : ea = min a b
      · have t1 : (ea == min a b) = true := by simpa using h1
        by_cases h2 : eb = max a b
        · have t2 : (eb == max a b) = true := by simpa using h2
          have HR : Hid (btwE es a b = m) := by show _ = _; rw [← hE.out, hrec, if_pos ⟨h1, h2⟩]
          clear h1 h2 hrec hx hb hE
          go_wp2
          go_ret
          exact ⟨ret_i HR.out.symm, HB1.out⟩
        · have t2 : (eb == max a b) = false := by simpa using h2
          have HE2 : Hid (btwE (es.drop (k + 1)) a b = btwE es a b) := by show _ = _; rw [← hE.out, hrec, if_neg (fun h => h2 h.2)]
          clear h1 h2 hrec hx hb hE
          go_wp2
          go_roundw
          case rel => exact ⟨k + 1, by omega, by go_num, HE2.out, HX1.out, HB1.out⟩
          case measure => simp [intOf]; omega
      · have t1 : (ea == min a b) = false := by simpa using h1
        have HE2 : Hid (btwE (es.drop (k + 1)) a b = btwE es a b) := by show _ = _; rw [← hE.out, hrec, if_neg (fun h => h1 h.1)]
        clear h1 hrec hx hb hE
        go_wp2
        go_roundw
        case rel => exact ⟨k + 1, by omega, by go_num, HE2.out, HX1.out, HB1.out⟩
        case measure => simp [intOf]; omega
    · have HR : Hid (btwE es a b = 0) := by show _ = _; rw [← hE.out, List.drop_of_length_le (by omega)]; rfl
      go_wp2
      go_ret
      exact ⟨ret_i HR.out.symm, hb.out⟩
end Go.Proofs.YtgcnijmmjlfabaaGreatDoor

namespace Go.Proofs.YtgcnijmmjlfabaaGreatDoor

def bAt (bs : List Bool) (u : Nat) : Bool := bs.getD u false
theorem bAt_set (bs : List Bool) (b u : Nat) (hb : b < bs.length) : bAt (bs.set b true) u = if u = b then true else bAt bs u := by
  unfold bAt
  rw [List.getD_eq_getElem?_getD, List.getElem?_set]
  by_cases h : b = u
  · subst h; simp [hb]
  · rw [if_neg h, if_neg (fun e => h e.symm), ← List.getD_eq_getElem?_getD]
/-- Nothing is marked that is not joined to v. -/
def Snd (n : Nat) (es : List Tri) (v : Nat) (bs : List Bool) : Prop := bAt bs v = true ∧ ∀ A : Nat → Bool, A v = true → (∀ a b, a < n → b < n → A a = true → 0 < wgt es a b → A b = true) → ∀ u, u < n → bAt bs u = true → A u = true
theorem Snd.step {n : Nat} {es : List Tri} {v : Nat} {bs : List Bool} (h : Snd n es v bs) (hl : bs.length = n) {a b : Nat} (ha : a < n) (hb : b < n) (h1 : bAt bs a = true) (h2 : a ≠ b → 0 < wgt es a b) : Snd n es v (bs.set b true) := by
  refine ⟨by rw [bAt_set _ _ _ (by omega)]; split; rfl; exact h.1, fun A hA hc u hu hbu => ?_⟩
  rw [bAt_set _ _ _ (by omega)] at hbu
  by_cases e : u = b
  · subst e
    have hAa := h.2 A hA hc a ha h1
    by_cases hab : a = u
    · subst hab; exact hAa
    · exact hc a u ha hu hAa (h2 hab)
  · rw [if_neg e] at hbu; exact h.2 A hA hc u hu hbu
/-- After r rounds. -/
def Rch (n : Nat) (es : List Tri) (v r : Nat) (bs : List Bool) : Prop := bs.length = n ∧ Snd n es v bs ∧ (Conn n (wgt es) → min n (r + 1) ≤ countN n (bAt bs))
/-- Within a round that began with bs0: the vertices ahead of a are done, and of a's neighbours those ahead of b. -/
def Mid8 (n : Nat) (es : List Tri) (v : Nat) (bs0 : List Bool) (a b : Nat) (bs : List Bool) : Prop :=
  bs.length = n ∧ Snd n es v bs ∧ (∀ u, bAt bs0 u = true → bAt bs u = true) ∧ (∀ a' b', a' < a → b' < n → bAt bs0 a' = true → 0 < wgt es a' b' → bAt bs b' = true) ∧ ∀ b', b' < b → bAt bs0 a = true → 0 < wgt es a b' → bAt bs b' = true
theorem Rch.start {n : Nat} {es : List Tri} {v : Nat} (hv : v < n) : Rch n es v 0 ((List.replicate n false).set v true) := by
  refine ⟨by simp, ⟨by rw [bAt_set _ _ _ (by simpa using hv), if_pos rfl], fun A hA _ u hu hb => ?_⟩, fun _ => ?_⟩
  · rw [bAt_set _ _ _ (by simpa using hv)] at hb
    by_cases e : u = v
    · rw [e]; exact hA
    · rw [if_neg e] at hb
      unfold bAt at hb
      rw [List.getD_eq_getElem?_getD, List.getElem?_replicate] at hb
      split at hb <;> cases hb
  · have : countN n (fun _ => false) < countN n (bAt ((List.replicate n false).set v true)) := countN_lt (fun _ _ h => by cases h) hv rfl (by rw [bAt_set _ _ _ (by simpa using hv), if_pos rfl])
    omega
theorem Rch.begin {n : Nat} {es : List Tri} {v r : Nat} {bs : List Bool} (h : Rch n es v r bs) : Mid8 n es v bs 0 0 bs := ⟨h.1, h.2.1, fun _ h => h, fun _ _ h => by omega, fun _ h => by omega⟩
theorem Mid8.skip {n : Nat} {es : List Tri} {v : Nat} {bs0 : List Bool} {a b : Nat} {bs : List Bool} (h : Mid8 n es v bs0 a b bs) (hw : bAt bs a = true → ¬ 0 < wgt es a b) : Mid8 n es v bs0 a (b + 1) bs := by
  obtain ⟨h1, h2, h3, h4, h5⟩ := h
  refine ⟨h1, h2, h3, h4, fun b' hb' ha hw' => ?_⟩
  by_cases e : b' = b
  · subst e; exact absurd hw' (hw (h3 a ha))
  · exact h5 b' (by omega) ha hw'
theorem Mid8.mark {n : Nat} {es : List Tri} {v : Nat} {bs0 : List Bool} {a b : Nat} {bs : List Bool} (h : Mid8 n es v bs0 a b bs) (ha : a < n) (hb : b < n) (h1 : bAt bs a = true) (h2 : a ≠ b → 0 < wgt es a b) : Mid8 n es v bs0 a (b + 1) (bs.set b true) := by
  obtain ⟨k1, k2, k3, k4, k5⟩ := h
  have hs : ∀ u, bAt bs u = true → bAt (bs.set b true) u = true := fun u hu => by rw [bAt_set _ _ _ (by omega)]; split; rfl; exact hu
  refine ⟨by simpa using k1, k2.step k1 ha hb h1 h2, fun u hu => hs u (k3 u hu), fun a' b' h1 h2 h3 h4 => hs b' (k4 a' b' h1 h2 h3 h4), fun b' hb' ha' hw' => ?_⟩
  by_cases e : b' = b
  · subst e; rw [bAt_set _ _ _ (by omega), if_pos rfl]
  · exact hs b' (k5 b' (by omega) ha' hw')
theorem Mid8.next {n : Nat} {es : List Tri} {v : Nat} {bs0 : List Bool} {a : Nat} {bs : List Bool} (h : Mid8 n es v bs0 a n bs) : Mid8 n es v bs0 (a + 1) 0 bs := by
  obtain ⟨k1, k2, k3, k4, k5⟩ := h
  refine ⟨k1, k2, k3, fun a' b' h1 h2 h3 h4 => ?_, fun _ h => by omega⟩
  by_cases e : a' = a
  · subst e; exact k5 b' h2 h3 h4
  · exact k4 a' b' (by omega) h2 h3 h4
theorem Mid8.end_ {n : Nat} {es : List Tri} {v r : Nat} {bs0 bs : List Bool} (h0 : Rch n es v r bs0) (h : Mid8 n es v bs0 n 0 bs) (hv : v < n) : Rch n es v (r + 1) bs := by
  obtain ⟨k1, k2, k3, k4, -⟩ := h
  refine ⟨k1, k2, fun hc => ?_⟩
  have c0 := h0.2.2 hc
  have cm := countN_mono (n := n) (p := bAt bs0) (p' := bAt bs) fun u _ hu => k3 u hu
  by_cases hall : ∃ x, x < n ∧ bAt bs0 x = false
  · obtain ⟨a, b, ha, hb, hA, hB, hw⟩ := hc (bAt bs0) ⟨v, hv, h0.2.1.1⟩ hall
    have := countN_lt (n := n) (p := bAt bs0) (p' := bAt bs) (fun u _ hu => k3 u hu) hb hB (k4 a b ha hb hA hw)
    omega
  · have : n ≤ countN n (bAt bs0) := by
      have hA : ∀ x, x < n → bAt bs0 x = true := fun x hx => by
        cases e : bAt bs0 x
        · exact absurd ⟨x, hx, e⟩ hall
        · rfl
      have : countN n (fun _ => true) ≤ countN n (bAt bs0) := countN_mono fun u hu _ => hA u hu
      have e : ∀ m, countN m (fun _ => true) = m := fun m => by induction m with
        | zero => rfl
        | succ m ih => simp [countN, ih]
      rw [e] at this; exact this
    omega
theorem Rch.all {n : Nat} {es : List Tri} {v : Nat} {bs : List Bool} (h : Rch n es v n bs) (hc : Conn n (wgt es)) : ∀ u, u < n → bAt bs u = true :=
  countN_all (by have := h.2.2 hc; omega)
/-- What is reached from 0 is all just when the graph is connected. -/
theorem rch_conn {n : Nat} {es : List Tri} {bs : List Bool} (h : Rch n es 0 n bs) : (∀ u, u < n → bAt bs u = true) ↔ Conn n (wgt es) := by
  refine ⟨fun hall A h1 h2 => ?_, fun hc => h.all hc⟩
  have key : ∀ B : Nat → Bool, B 0 = true → (∃ x, x < n ∧ B x = false) → ∃ a b, a < n ∧ b < n ∧ B a = true ∧ B b = false ∧ 0 < wgt es a b := by
    intro B hB ⟨x, hx, hxB⟩
    by_cases hcl : ∀ a b, a < n → b < n → B a = true → 0 < wgt es a b → B b = true
    · have := h.2.1.2 B hB hcl x hx (hall x hx)
      rw [hxB] at this; cases this
    · simp only [Classical.not_forall] at hcl
      obtain ⟨a, b, ha, hb, hA, hw, hbB⟩ := hcl
      exact ⟨a, b, ha, hb, hA, by simpa using hbB, hw⟩
  cases hA : A 0
  · obtain ⟨a, b, ha, hb, e1, e2, hw⟩ := key (fun u => !A u) (by simp [hA]) (by obtain ⟨x, hx, hxA⟩ := h1; exact ⟨x, hx, by simp [hxA]⟩)
    exact ⟨b, a, hb, ha, by simpa using e2, by simpa using e1, by rw [wgt_sym]; exact hw⟩
  · exact key A hA h2
end Go.Proofs.YtgcnijmmjlfabaaGreatDoor

namespace Go.Proofs.YtgcnijmmjlfabaaGreatDoor
open Go.RowKit Go.Shelf

theorem bl_bool {w : World} {b : Nat} {bs : List Bool} (h : BL w b 4 (bs.map .bool)) {a : Nat} (ha : a < bs.length) : w.cell? ⟨b, a, none⟩ = some (.bool (bAt bs a)) := by
  rw [h.cell a, List.getElem?_map, List.getElem?_eq_getElem ha]
  unfold bAt
  rw [List.getD_eq_getElem?_getD, List.getElem?_eq_getElem ha]; rfl
theorem bl_boolset {w : World} {b : Nat} {bs : List Bool} (h : BL w b 4 (bs.map .bool)) (a : Nat) (x : Bool) : BL (w.setCell ⟨b, a, none⟩ (.bool x)) b 4 ((bs.set a x).map .bool) := by
  have := h.set a (.bool x)
  rwa [← List.map_set] at this
theorem made_list (n : Nat) : (madeCells #[Value.bool false] n).toList = (List.replicate n false).map .bool := by
  refine List.ext_getElem (by simp [size_madeCells]) fun k h1 h2 => ?_
  simp [madeCells, Nat.mod_one]
theorem made_bool (w : World) (n : Nat) : BL (w.alloc (.cells (madeCells #[Value.bool false] n) 4)) w.heap.size 4 ((List.replicate n false).map .bool) := by
  have := BL.new' w (madeCells #[Value.bool false] n) 4
  rwa [made_list] at this
theorem reached_any (g : Value) (n v : Nat) (es : List Tri) (w : World) (hg : GV w g n es) (hE : Edges n es) (hn : n ≤ 12) (hv : v < n) :
    Calls Tryz.prog 102 #[g, .int .i64 (v : Int)] w fun e w' => ∃ bs, e = .returned (.slice (some ⟨w.heap.size + 1, 0, none⟩) n n) ∧ BL w' (w.heap.size + 1) 4 (bs.map .bool) ∧ Rch n es v n bs ∧ Below w.heap.size w w' := by
  obtain ⟨A, c, rfl, hlc, hc, hcell⟩ := hg.open_
  have hmk := run_make_row' (P := Tryz.prog) 139 4 (.bool false) 1 Tryz.underlying139 bool_info rfl .i64 .i64 n (by omega) (by omega)
  obtain ⟨W0, hW0⟩ : ∃ W0, W0 = w.alloc (.cells #[.int .i64 (n : Int), .slice A es.length c] 24) := ⟨_, rfl⟩
  have hb0 : Below w.heap.size w W0 := by rw [hW0]; exact below_alloc w _
  have hz0 : W0.heap.size = w.heap.size + 1 := by rw [hW0]; simp
  have hx0 : BL W0 w.heap.size 24 [.int .i64 (n : Int), .slice A es.length c] := by rw [hW0]; exact BL.new' w _ _
  obtain ⟨W1, hW1⟩ : ∃ W1, W1 = W0.alloc (.cells (madeCells #[Value.bool false] n) 4) := ⟨_, rfl⟩
  have hb1 : Below W0.heap.size W0 W1 := by rw [hW1]; exact below_alloc W0 _
  have hm1 : BL W1 (w.heap.size + 1) 4 ((List.replicate n false).map .bool) := by rw [hW1, ← hz0]; exact made_bool W0 n
  obtain ⟨W2, hW2⟩ : ∃ W2, W2 = W0.alloc (.cells ((madeCells #[Value.bool false] n).setIfInBounds v (.bool true)) 4) := ⟨_, rfl⟩
  have hm2 : BL W2 (w.heap.size + 1) 4 (((List.replicate n false).set v true).map .bool) := by
    have h := BL.new' W0 ((madeCells #[Value.bool false] n).setIfInBounds v (.bool true)) 4
    rw [Array.toList_setIfInBounds, made_list, ← List.map_set] at h
    rw [hW2, ← hz0]; exact h
  have hx2 : BL W2 w.heap.size 24 [.int .i64 (n : Int), .slice A es.length c] := by rw [hW2]; exact hx0.alloc _
  have hbb : Below w.heap.size w W2 := by rw [hW2]; exact hb0.alloc (by omega) _
  have c0 := hx0.cell 0
  have e0 := bl_bool hm1 (a := v) (by simpa using hv)
  have e1 := hm1.frozen v
  rw [hW0] at c0
  rw [hW1, hW0] at e0 e1
  have HG := Lib.hid hg
  have HE := Lib.hid hE
  have HW0 := Lib.hid hW0
  have HW2 := Lib.hid hW2
  have HM2 := Lib.hid hm2
  have HX2 := Lib.hid hx2
  have HB2 := Lib.hid hbb
  have hv1 : (v : Int) < n := by omega
  clear hg hE hcell hb0 hz0 hx0 hb1 hm1 hm2 hx2 hbb hW0 hW1 hW2
  go_enter Tryz.func102, Tryz.ntmps102
  go_wp2_with fail
  rw [← HW0.out, ← HW2.out]
  clear c0 e0 e1 hmk
  go_loopw [6] (fun i wr => ∃ (r : Nat) (bs : List Bool), r ≤ n ∧ i = .int .i64 (r : Int) ∧ Hid (Rch n es v r bs) ∧ Hid (BL wr (w.heap.size + 1) 4 (bs.map .bool)) ∧ Hid (BL wr w.heap.size 24 [.int .i64 (n : Int), .slice A es.length c]) ∧ Hid (Below w.heap.size w wr)) (fun i _ => n - (intOf i).toNat)
  case atStart => exact ⟨0, _, Nat.zero_le _, rfl, Rch.start hv, HM2.out, HX2.out, HB2.out⟩
  case round =>
    obtain ⟨r, bs0, hr, rfl, hR, hm, hx, hb⟩ := hrel
    have y0 := hx.out.cell 0
    by_cases hrn : r < n
    · have HR0 := hR
      go_wp2_with fail
      go_loopw [7] (fun i wr => ∃ (a : Nat) (bs : List Bool), a ≤ n ∧ i = .int .i64 (a : Int) ∧ Hid (Mid8 n es v bs0 a 0 bs) ∧ Hid (BL wr (w.heap.size + 1) 4 (bs.map .bool)) ∧ Hid (BL wr w.heap.size 24 [.int .i64 (n : Int), .slice A es.length c]) ∧ Hid (Below w.heap.size w wr)) (fun i _ => n - (intOf i).toNat)
      case atStart => exact ⟨0, _, Nat.zero_le _, rfl, hR.out.begin, hm.out, hx.out, hb.out⟩
      case round =>
        clear hm hx hb y0
        obtain ⟨a, bs1, ha, rfl, hA, hm, hx, hb⟩ := hrel
        have y0 := hx.out.cell 0
        by_cases han : a < n
        · have han1 : (a : Int) < n := by omega
          go_wp2_with fail
          go_loopw [8] (fun i wr => ∃ (b : Nat) (bs : List Bool), b ≤ n ∧ i = .int .i64 (b : Int) ∧ Hid (Mid8 n es v bs0 a b bs) ∧ Hid (BL wr (w.heap.size + 1) 4 (bs.map .bool)) ∧ Hid (BL wr w.heap.size 24 [.int .i64 (n : Int), .slice A es.length c]) ∧ Hid (Below w.heap.size w wr)) (fun i _ => n - (intOf i).toNat)
          case atStart => exact ⟨0, _, Nat.zero_le _, rfl, hA.out, hm.out, hx.out, hb.out⟩
          case round =>
            clear hm hx hb y0 hA
            obtain ⟨b, bs, hbn, rfl, hA, hm, hx, hb⟩ := hrel
            have y0 := hx.out.cell 0
            have y1 := hx.out.cell 1
            by_cases hbl : b < n
            · have hbl1 : (b : Int) < n := by omega
              have hlen := hA.out.1
              have z0 := bl_bool hm.out (a := a) (by omega)
              cases hba : bAt bs a
              · rw [hba] at z0
                have HA2 := Lib.hid (hA.out.skip (fun h => by rw [hba] at h; cases h))
                clear hlen hba
                go_wp2
                go_roundw
                case rel => exact ⟨b + 1, bs, by omega, by go_num, HA2.out, hm.out, hx.out, hb.out⟩
                case measure => simp [intOf]; omega
              · rw [hba] at z0
                have HBt := Lib.hid (between_any _ n es a b wr (HG.out.below hb.out))
                have hwg : a ≠ b → btwE es (a : Int) (b : Int) = wgt es a b := fun h => btw_wgt HE.out h
                have hbz := btw_le HE.out (a : Int) (b : Int)
                obtain ⟨t, htt⟩ : ∃ t, t = btwE es (a : Int) (b : Int) := ⟨_, rfl⟩
                rw [← htt] at HBt hwg hbz
                by_cases ht : 0 < t
                · have HA2 := Lib.hid (hA.out.mark han hbl hba (fun h => by rw [← hwg h]; exact ht))
                  go_wp2_with fail
                  refine HBt.out.mono ?_
                  rintro e w1 ⟨rfl, hb1⟩
                  have hm1 := hm.out.bel hb1
                  have f0 := bl_bool hm1 (a := b) (by omega)
                  have f1 := hm1.frozen b
                  have HM1 := Lib.hid (bl_boolset hm1 b true)
                  have HX1 := Lib.hid ((hx.out.bel hb1).set_other (a := ⟨w.heap.size + 1, b, none⟩) (by simp) (.bool true))
                  have HB1 := Lib.hid ((hb.out.trans (hb1.mono hb.out.size)).setCell (p := ⟨w.heap.size + 1, b, none⟩) (by simp) (.bool true))
                  clear hb1 hm1 hlen hba hwg htt hbz y0 y1 z0
                  go_wp2
                  go_roundw
                  case rel => exact ⟨b + 1, _, by omega, by go_num, HA2.out, HM1.out, HX1.out, HB1.out⟩
                  case measure => simp [intOf]; omega
                · have HA2 := Lib.hid (hA.out.skip (fun _ h => by
                    by_cases e : a = b
                    · subst e; rw [wgt_self] at h; omega
                    · rw [← hwg e] at h; exact ht h))
                  go_wp2_with fail
                  refine HBt.out.mono ?_
                  rintro e w1 ⟨rfl, hb1⟩
                  have HM1 := Lib.hid (hm.out.bel hb1)
                  have HX1 := Lib.hid (hx.out.bel hb1)
                  have HB1 := Lib.hid (hb.out.trans (hb1.mono hb.out.size))
                  clear hb1 hlen hba hwg htt hbz y0 y1 z0
                  go_wp2
                  go_roundw
                  case rel => exact ⟨b + 1, _, by omega, by go_num, HA2.out, HM1.out, HX1.out, HB1.out⟩
                  case measure => simp [intOf]; omega
            · obtain rfl : b = n := by omega
              go_wp2
              go_roundw
              case rel => exact ⟨a + 1, bs, by omega, by go_num, hA.out.next, hm.out, hx.out, hb.out⟩
              case measure => simp [intOf]; omega
        · obtain rfl : a = n := by omega
          go_wp2
          go_roundw
          case rel => exact ⟨r + 1, bs1, by omega, by go_num, Mid8.end_ HR0.out hA.out hv, hm.out, hx.out, hb.out⟩
          case measure => simp [intOf]; omega
    · obtain rfl : r = n := by omega
      go_wp2
      go_ret
      exact ⟨bs0, rfl, hm.out, hR.out, hb.out⟩
end Go.Proofs.YtgcnijmmjlfabaaGreatDoor

