/- Contract of the checker's right.
   Contract of the checker's divisors: the closure fill.
   Contract of the checker's divisors: the iterator.
   A region that draws its order within a round of a range over a function, with calls: what holds at the plain statement holds in the round. -/
import Derived.Test.YtgcnijmmjlfabaaGreatDoorK13
import Derived.Test.YtgcnijmmjlfabaaGreatDoorK11
set_option maxRecDepth 100000
set_option maxHeartbeats 16000000
namespace Go.Proofs.YtgcnijmmjlfabaaGreatDoor
open Go.RowKit Go.Shelf

/-- What is wrong with invariant factors, the first k of which were looked at. -/
def facE : Int → List Int → Int
  | _, [] => 0
  | p, f :: r => if f < 2 then 2 else if p ≠ 0 ∧ f % p ≠ 0 then 9 else facE f r
def rightE (m : Nat) (q n : Bool) (least Q N : Int) (fs : List Int) : Int :=
  if (q = true ∧ ¬ (0 ≤ Q ∧ Q < m)) ∨ (n = true ∧ (N < least ∨ 12 < N)) then 2 else if (fs.length : Int) > m - 1 then 5 else facE 0 fs
def lastF (fs : List Int) : Nat → Int
  | 0 => 0
  | k + 1 => fs.getD k 0
theorem kRight_any (gv vw va vb vf vp v2 v3 fv v5 : Value) (m : Nat) (q n : Bool) (least Q N : Int) (es : List Tri) (fs : List Int) (w : World) (hg : GX w gv m es) (hl : RI w fv fs) (hm : m ≤ 12) (hm1 : 1 ≤ m) (hfb : Bd 2000000 fs) (hfl : fs.length ≤ 100000) :
    Calls Tryz.prog 49 #[.agg #[vw, .bool q, .bool n, va, vb, vf, .int .i64 least, vp], gv, .agg #[.int .i64 Q, .int .i64 N, v2, v3, fv, v5]] w fun e w' => e = .returned (.int .i64 (rightE m q n least Q N fs)) ∧ Below w.heap.size w w' := by
  obtain ⟨bg, vj, vv, rfl, hbg, -, -⟩ := id hg
  obtain ⟨A, c, rfl, hlc, -, hcell⟩ := hl.open_
  obtain ⟨W0, hW0⟩ : ∃ W0, W0 = (w.alloc (.cells #[vw, .bool q, .bool n, va, vb, vf, .int .i64 least, vp] 77)).alloc (.cells #[.int .i64 Q, .int .i64 N, v2, v3, .slice A fs.length c, v5] 87) := ⟨_, rfl⟩
  have hb0 : Below w.heap.size w W0 := by rw [hW0]; exact (below_alloc w _).alloc (by simp) _
  have hK : BL W0 w.heap.size 77 [vw, .bool q, .bool n, va, vb, vf, .int .i64 least, vp] := by rw [hW0]; exact (BL.new' w _ _).alloc _
  have hC : BL W0 (w.heap.size + 1) 87 [.int .i64 Q, .int .i64 N, v2, v3, .slice A fs.length c, v5] := by
    rw [hW0]
    have := BL.new' (w.alloc (.cells #[vw, .bool q, .bool n, va, vb, vf, .int .i64 least, vp] 77)) #[.int .i64 Q, .int .i64 N, v2, v3, .slice A fs.length c, v5] 87
    rwa [World.size_alloc] at this
  have HV := Lib.hid (kVertexB_any bg m vj vv Q W0 (hbg.bel hb0))
  have hg0 := (hbg.bel hb0).cell 0
  have k1 := hK.cell 1
  have k2 := hK.cell 2
  have k6 := hK.cell 6
  have c0 := hC.cell 0
  have c1 := hC.cell 1
  have c4 := hC.cell 4
  have HW0 := Lib.hid hW0
  have HB0 := Lib.hid hb0
  have HCl := Lib.hid hcell
  have HFb := Lib.hid hfb
  have HHd : Hid ((q = true ∧ ¬ (0 ≤ Q ∧ Q < m)) ∨ (n = true ∧ (N < least ∨ 12 < N)) → rightE m q n least Q N fs = 2) := fun h => by unfold rightE; rw [if_pos h]
  have HTl : Hid (¬ ((q = true ∧ ¬ (0 ≤ Q ∧ Q < m)) ∨ (n = true ∧ (N < least ∨ 12 < N))) → rightE m q n least Q N fs = if (fs.length : Int) > m - 1 then 5 else facE 0 fs) := fun h => by unfold rightE; rw [if_neg h]
  clear hW0 hb0 hK hC hg hl hbg hcell hfb
  have hv := HV.out
  clear HV
  by_cases hbad : (q = true ∧ ¬ (0 ≤ Q ∧ Q < m)) ∨ (n = true ∧ (N < least ∨ 12 < N))
  · have HR : Hid (rightE m q n least Q N fs = 2) := HHd.out hbad
    clear HHd HTl
    rw [HW0.out] at k1 k2 k6 c0 c1 c4 hg0 hv
    cases q
    · cases n
      · simp at hbad
      · have hN : N < least ∨ 12 < N := by simpa using hbad
        clear hbad
        by_cases h1 : N < least
        · skip
          go_enter Tryz.func49, Tryz.ntmps49
          go_wp2
          go_ret
          exact ⟨ret_i HR.out.symm, by rw [← HW0.out]; exact HB0.out⟩
        · have h2 : 12 < N := by omega
          go_enter Tryz.func49, Tryz.ntmps49
          go_wp2
          go_ret
          exact ⟨ret_i HR.out.symm, by rw [← HW0.out]; exact HB0.out⟩
    · by_cases hvq : 0 ≤ Q ∧ Q < m
      · have t : (decide (0 ≤ Q) && decide (Q < m)) = true := by simp [hvq]
        rw [t] at hv
        have HV := Lib.hid hv
        clear hv t
        cases n
        · simp at hbad; omega
        · have hN : N < least ∨ 12 < N := by
            rcases hbad with h | h
            · exact absurd hvq h.2
            · exact h.2
          clear hbad
          by_cases h1 : N < least
          · skip
            go_enter Tryz.func49, Tryz.ntmps49
            go_wp2_with fail
            refine HV.out.mono ?_
            rintro e w2 ⟨rfl, rfl⟩
            go_wp2
            go_ret
            exact ⟨ret_i HR.out.symm, by rw [← HW0.out]; exact HB0.out⟩
          · have h2 : 12 < N := by omega
            go_enter Tryz.func49, Tryz.ntmps49
            go_wp2_with fail
            refine HV.out.mono ?_
            rintro e w2 ⟨rfl, rfl⟩
            go_wp2
            go_ret
            exact ⟨ret_i HR.out.symm, by rw [← HW0.out]; exact HB0.out⟩
      · have t : (decide (0 ≤ Q) && decide (Q < m)) = false := by
          rw [← Bool.decide_and, decide_eq_false hvq]
        rw [t] at hv
        have HV := Lib.hid hv
        clear hv t hbad
        go_enter Tryz.func49, Tryz.ntmps49
        go_wp2_with fail
        refine HV.out.mono ?_
        rintro e w2 ⟨rfl, rfl⟩
        go_wp2
        go_ret
        exact ⟨ret_i HR.out.symm, by rw [← HW0.out]; exact HB0.out⟩
  · have HRt := Lib.hid (HTl.out hbad)
    clear HHd HTl
    have HV := Lib.hid hv
    clear hv
    obtain ⟨W1, HW1⟩ : ∃ W1, Hid (W1 = W0) := ⟨_, rfl⟩
    go_enter Tryz.func49, Tryz.ntmps49
    go_upto_region 1 with fail
    rw [← HW0.out]
    go_cut [6, 33] from 9 to 32 (fun c d wx => c = .int .i64 0 ∧ d = .bool false ∧ wx = W0)
    case first =>
      have hN2 : n = true → ¬ N < least ∧ ¬ 12 < N := fun h => by
        constructor
        · intro h2; exact hbad (.inr ⟨h, .inl h2⟩)
        · intro h2; exact hbad (.inr ⟨h, .inr h2⟩)
      have hQ2 : q = true → (decide (0 ≤ Q) && decide (Q < m)) = true := fun h => by
        rw [← Bool.decide_and]
        refine decide_eq_true ?_
        apply Classical.byContradiction
        intro h2
        exact hbad (.inl ⟨h, h2⟩)
      cases q
      · cases n
        · clear hN2 hQ2 hbad
          go_wp2_with fail
          go_meet
          exact ⟨rfl, by first | rfl | (simp; done) | (simp; omega), rfl⟩
        · obtain ⟨h1, h2⟩ := hN2 rfl
          clear hN2 hQ2 hbad
          go_wp2_with fail
          go_meet
          exact ⟨rfl, by first | rfl | (simp; done) | (simp; omega), rfl⟩
      · have t := hQ2 rfl
        rw [t] at HV
        cases n
        · clear hN2 hQ2 hbad t
          go_wp2_with fail
          refine HV.out.mono ?_
          rintro e w2 ⟨rfl, rfl⟩
          go_wp2_with fail
          go_meet
          exact ⟨rfl, by first | rfl | (simp; done) | (simp; omega), rfl⟩
        · obtain ⟨h1, h2⟩ := hN2 rfl
          clear hN2 hQ2 hbad t
          go_wp2_with fail
          refine HV.out.mono ?_
          rintro e w2 ⟨rfl, rfl⟩
          go_wp2_with fail
          go_meet
          exact ⟨rfl, by first | rfl | (simp; done) | (simp; omega), rfl⟩
    case rest =>
      obtain ⟨rfl, rfl, hwx⟩ := hcut
      subst hwx
      clear k1 k2 k6 c0 c1 hbad HV HW0 HW1
      by_cases hfm : (fs.length : Int) > m - 1
      · have HR : Hid (rightE m q n least Q N fs = 5) := by show _ = _; rw [HRt.out, if_pos hfm]
        clear HRt
        go_wp2_with fail
        go_quiet (fail)
        have HBq := Lib.hid (below_drewN HB0.out nq)
        go_wp2
        go_ret
        exact ⟨ret_i HR.out.symm, HBq.out⟩
      · have HRf : Hid (rightE m q n least Q N fs = facE 0 fs) := by show _ = _; rw [HRt.out, if_neg hfm]
        clear HRt
        go_wp2_with fail
        go_quiet (fail)
        have HBq := Lib.hid (below_drewN HB0.out nq)
        have c4' : (wc.drewN nq).cell? ⟨w.heap.size + 1, 4, none⟩ = some (.slice A fs.length c) := c4
        clear c4 hg0 HB0
        generalize wc.drewN nq = wd at *
        go_wp2_with fail
        clear hfm
        go_loop [46] (fun i => ∃ k : Nat, k ≤ fs.length ∧ i = .int .i64 (k : Int) ∧ Hid (facE 0 fs = facE (lastF fs k) (fs.drop k)) ∧ Hid (∀ j, k = j + 1 → 2 ≤ fs.getD j 0)) (fun i => fs.length - (intOf i).toNat)
        case atStart => exact ⟨0, Nat.zero_le _, rfl, rfl, fun j h => by omega⟩
        case round =>
          obtain ⟨k, hk, rfl, hE, hpos⟩ := hrel
          by_cases hlt : k < fs.length
          · obtain ⟨ad, z, rfl, hadb, hz, hcz⟩ := HCl.out k hlt
            have hcz2 := (HBq.out.cell (p := ad.add k) (by rw [block_of_add]; exact hadb)).trans hcz
            have hd : fs.drop k = z :: fs.drop (k + 1) := drop_at hz
            have hzz := getD_of' hz.out
            have HEz : Hid (rightE m q n least Q N fs = if z < 2 then 2 else if lastF fs k ≠ 0 ∧ z % lastF fs k ≠ 0 then 9 else facE z (fs.drop (k + 1))) := by
              show _ = _
              rw [HRf.out, hE.out, hd]; rfl
            have HNx : Hid (lastF fs (k + 1) = z) := hzz
            have hzb := HFb.out k
            rw [hzz] at hzb
            have HZz := Lib.hid hzz
            have HEo := Lib.hid hE.out
            have HDr := Lib.hid hd
            clear hcz hd hzz hz
            by_cases hz2 : z < 2
            · have HR : Hid (rightE m q n least Q N fs = 2) := by show _ = _; rw [HEz.out, if_pos hz2]
              go_wp2
              go_ret
              exact ⟨ret_i HR.out.symm, HBq.out⟩
            · by_cases hk0 : k = 0
              · have HNe : Hid (facE 0 fs = facE (lastF fs (k + 1)) (fs.drop (k + 1))) := by
                  show _ = _
                  rw [HEo.out, HDr.out, facE, if_neg hz2, if_neg (by rw [hk0]; simp [lastF]), HNx.out]
                have t1 : ¬ (0 : Int) < (k : Int) := by omega
                have HPs : Hid (∀ j, k + 1 = j + 1 → 2 ≤ fs.getD j 0) := fun j h => by rw [show j = k by omega, HZz.out]; omega
                clear hk0 HEz hE hpos
                go_wp2_with fail
                go_round
                case rel => exact ⟨k + 1, by omega, by go_num, HNe.out, HPs.out⟩
                case measure => simp [intOf]; omega
              · obtain ⟨j, rfl⟩ : ∃ j, k = j + 1 := ⟨k - 1, by omega⟩
                obtain ⟨ad', y, hea, hyb, hy, hcy⟩ := HCl.out j (by omega)
                obtain rfl : ad = ad' := by simpa using hea
                have hcy2 := (HBq.out.cell (p := ad.add j) (by rw [block_of_add]; exact hyb)).trans hcy
                have hyy := getD_of' hy.out
                have hy2 := hpos.out j rfl
                rw [hyy] at hy2
                have HLy : Hid (lastF fs (j + 1) = y) := hyy
                have hyB := HFb.out j
                rw [hyy] at hyB
                have hj1 : (j : Int) < (fs.length : Int) := by omega
                have hy0 : y ≠ 0 := by omega
                have hcz3 : wd.cell? ⟨ad.block, ad.off + (j + 1), none⟩ = some (.int .i64 z) := by simpa [Addr.add] using hcz2
                clear hk0 hcy hy hyy hea
                by_cases hr : z % y = 0
                · have HNe : Hid (facE 0 fs = facE (lastF fs (j + 1 + 1)) (fs.drop (j + 1 + 1))) := by
                    show _ = _
                    rw [HEo.out, HDr.out, facE, if_neg hz2, if_neg (by rw [HLy.out]; exact fun h => h.2 hr), HNx.out]
                  have HPs : Hid (∀ i, j + 1 + 1 = i + 1 → 2 ≤ fs.getD i 0) := fun i h => by rw [show i = j + 1 by omega, HZz.out]; omega
                  have t1 : (z % y != 0) = false := by simpa using hr
                  clear HEz hE hpos hr
                  go_wp2_with fail
                  go_round
                  case rel => exact ⟨j + 1 + 1, by omega, by go_num, HNe.out, HPs.out⟩
                  case measure => simp [intOf]; omega
                · have HR : Hid (rightE m q n least Q N fs = 9) := by
                    show _ = _; rw [HEz.out, if_neg hz2, if_pos ⟨by rw [HLy.out]; exact hy0, by rw [HLy.out]; exact hr⟩]
                  have t1 : (z % y != 0) = true := by simpa using hr
                  clear HEz hE hpos hr
                  go_wp2
                  go_ret
                  exact ⟨ret_i HR.out.symm, HBq.out⟩
          · have HR : Hid (rightE m q n least Q N fs = 0) := by
              show _ = _
              rw [HRf.out, hE.out, List.drop_of_length_le (by omega)]; rfl
            go_wp2
            go_ret
            exact ⟨ret_i HR.out.symm, HBq.out⟩
end Go.Proofs.YtgcnijmmjlfabaaGreatDoor

namespace Go.Proofs.YtgcnijmmjlfabaaGreatDoor
open Go.RowKit Go.Shelf
attribute [local go_sem] Oper.semAt_some

/-- What the closure fill yields from the vertex v on, with left chips to give away. -/
def fillF : Nat → Nat → Nat → List Int → List (List Int)
  | 0, v, left, cs => [cs.set v (left : Int)]
  | m + 1, v, left, cs => (List.range (left + 1)).flatMap fun k => fillF m (v + 1) (left - k) (cs.set v (k : Int))
theorem set_agree {cs cs' : List Int} {v : Nat} {x : Int} (hl : cs.length = cs'.length) (h : ∀ u, u < v → cs.getD u 0 = cs'.getD u 0) {u : Nat} (hv : v < cs.length) (hu : u < v + 1) : (cs.set v x).getD u 0 = (cs'.set v x).getD u 0 := by
  rw [getD_set' hv, getD_set' (by omega)]
  by_cases e : u = v
  · rw [if_pos e, if_pos e]
  · rw [if_neg e, if_neg e]; exact h u (by omega)
/-- It looks only at what stands ahead of v. -/
theorem fillF_agree {n : Nat} : ∀ (m v left : Nat) (cs cs' : List Int), v + m + 1 = n → cs.length = n → cs'.length = n → (∀ u, u < v → cs.getD u 0 = cs'.getD u 0) → fillF m v left cs = fillF m v left cs' := by
  intro m
  induction m with
  | zero =>
    intro v left cs cs' hv hl hl' h
    unfold fillF
    congr 1
    exact list_eq' (n := n) (by rw [List.length_set]; exact hl) (by rw [List.length_set]; exact hl') fun u hu => set_agree (by omega) h (by omega) (by omega)
  | succ m ih =>
    intro v left cs cs' hv hl hl' h
    unfold fillF
    congr 1
    funext k
    exact ih (v + 1) (left - k) _ _ (by omega) (by rw [List.length_set]; exact hl) (by rw [List.length_set]; exact hl') fun u hu => set_agree (by omega) h (by omega) hu
/-- What is yielded by the first j rounds. -/
def fillK (m v left : Nat) (cs : List Int) (j : Nat) : List (List Int) := (List.range j).flatMap fun k => fillF m (v + 1) (left - k) (cs.set v (k : Int))
theorem fillK_succ (m v left : Nat) (cs : List Int) (j : Nat) : fillK m v left cs (j + 1) = fillK m v left cs j ++ fillF m (v + 1) (left - j) (cs.set v (j : Int)) := by
  unfold fillK
  rw [List.range_succ, List.flatMap_append]
  simp
theorem fillK_split {m v left : Nat} {cs : List Int} {j : Nat} (h : j < left + 1) : ∃ rest, fillF (m + 1) v left cs = fillK m v left cs j ++ (fillF m (v + 1) (left - j) (cs.set v (j : Int)) ++ rest) := by
  refine ⟨((List.range (left + 1)).drop (j + 1)).flatMap fun k => fillF m (v + 1) (left - k) (cs.set v (k : Int)), ?_⟩
  have e : List.range (left + 1) = List.range j ++ j :: (List.range (left + 1)).drop (j + 1) := by
    have h1 : (List.range (left + 1)).take j = List.range j := by rw [List.take_range]; congr 1; omega
    rw [← h1]
    have h2 : (List.range (left + 1)).drop j = j :: (List.range (left + 1)).drop (j + 1) := by
      rw [List.drop_eq_getElem_cons (by simpa using h)]; simp
    rw [← h2, List.take_append_drop]
  show (List.range (left + 1)).flatMap _ = _
  conv => lhs; rw [e]
  rw [List.flatMap_append, List.flatMap_cons]
  rfl
/-- What the closure fill has captured: B0 the box of n, s the yield's, s + 2 the box of d, whose cells lie at s + 1, s + 3 its own. -/
structure DvS (B0 s n l : Nat) (cs : List Int) (W : World) : Prop where
  k : BL W B0 3 [.int .i64 (n : Int)]
  y : BL W s 107 [.func (.yield l) #[] #[]]
  c : OI W (s + 1) (.slice (some ⟨s + 1, 0, none⟩) n n) cs
  b : BL W (s + 2) 42 [.slice (some ⟨s + 1, 0, none⟩) n n]
  f : BL W (s + 3) 161 [.func (.func 144) #[] #[.pointer (some ⟨B0, 0, none⟩), .pointer (some ⟨s + 2, 0, none⟩), .pointer (some ⟨s, 0, none⟩), .pointer (some ⟨s + 3, 0, none⟩)]]
theorem DvS.keep {B0 s n l : Nat} {cs : List Int} {W W' : World} (h : DvS B0 s n l cs W) (hk : LkK [B0, s, s + 1, s + 2, s + 3] W W') : DvS B0 s n l cs W' :=
  ⟨(hk.2 _ (by simp)).trans h.k, (hk.2 _ (by simp)).trans h.y, OV.heapEq h.c (hk.2 _ (by simp)), (hk.2 _ (by simp)).trans h.b, (hk.2 _ (by simp)).trans h.f⟩
theorem DvS.set {B0 s n l : Nat} {cs : List Int} {W : World} (h : DvS B0 s n l cs W) (hB : B0 < s) {v : Nat} (hv : v < cs.length) (x : Int) : DvS B0 s n l (cs.set v x) (W.setCell ⟨s + 1, v, none⟩ (.int .i64 x)) := by
  obtain ⟨-, -, -, -, est⟩ := OI.at' h.c hv
  exact ⟨h.k.set_other (by simp; omega) _, h.y.set_other (by simp) _, (est x).1, h.b.set_other (by simp) _, h.f.set_other (by simp) _⟩
/-- What comes with a divisor that is yielded. -/
def DvIt (s n : Nat) (E : List (List Int)) (pre : List (Value × List Int)) (x : Value × List Int) (W : World) : Prop :=
  OI W (s + 1) x.1 x.2 ∧ x.2.length = n ∧ s + 4 ≤ W.heap.size ∧ ∃ rest, pre.map (·.2) ++ x.2 :: rest = E
theorem fill_any (B0 s n l : Nat) (hn : n ≤ 12) (hB : B0 < s) (E : List (List Int)) (J Jx : List (Value × List Int) → World → Prop)
    (hJ : ∀ pre A B, J pre A → Fr [s + 1] A B → J pre B)
    (hY : ∀ (N : Nat) pre x W1, J pre W1 → DvIt s n E pre x W1 → YieldAt Fence.wide N Tryz.prog l #[x.1] W1 fun e W' => (e = .returned (.bool true) ∧ J (pre ++ [x]) W' ∧ LkK [B0, s, s + 1, s + 2, s + 3] W1 W') ∨ (e = .returned (.bool false) ∧ Jx (pre ++ [x]) W')) :
    ∀ (m v : Nat), v + m + 1 = n → ∀ (N left : Nat) (cs : List Int) (pre : List (Value × List Int)) (W : World), left ≤ 12 → cs.length = n → (∃ rest, pre.map (·.2) ++ (fillF m v left cs ++ rest) = E) → J pre W → DvS B0 s n l cs W →
      CallsIn Fence.wide N Tryz.prog 144 #[.int .i64 (v : Int), .int .i64 (left : Int), .pointer (some ⟨B0, 0, none⟩), .pointer (some ⟨s + 2, 0, none⟩), .pointer (some ⟨s, 0, none⟩), .pointer (some ⟨s + 3, 0, none⟩)] W fun e W' =>
        (e = .returned (.bool true) ∧ ∃ xs cs', xs.map (·.2) = fillF m v left cs ∧ J (pre ++ xs) W' ∧ cs'.length = n ∧ (∀ u, u < v → cs'.getD u 0 = cs.getD u 0) ∧ DvS B0 s n l cs' W') ∨ (e = .returned (.bool false) ∧ ∃ pre', Jx pre' W') := by
  intro m
  induction m with
  | zero =>
    intro v hvn N left cs pre W hlf hcl hE hj hw
    obtain rfl : n = v + 1 := by omega
    have c1 := hw.k.cell 0
    have c3 := hw.b.cell 0
    have hw2 := hw.set hB (v := v) (by omega) (left : Int)
    obtain ⟨-, -, g1, g2, -⟩ := OI.at' hw.c (k := v) (by omega)
    have d2 := hw2.y.cell 0
    have d3 := hw2.b.cell 0
    have hlen : (cs.set v (left : Int)).length = v + 1 := by rw [List.length_set]; exact hcl
    have hj2 := hJ _ _ _ hj ((Fr.refl [s + 1] W).setCell (p := ⟨s + 1, v, none⟩) (.inl (by simp)) (.int .i64 (left : Int)))
    have hfl := hw2.f.lt
    obtain ⟨fn, tmps, assign, body, hy, hRd⟩ := hY (N - 1) pre (.slice (some ⟨s + 1, 0, none⟩) (v + 1) (v + 1), cs.set v (left : Int)) _ hj2 ⟨hw2.c, hlen, by omega, by obtain ⟨rest, h⟩ := hE; exact ⟨rest, by simpa [fillF] using h⟩⟩
    dsimp only at hy hRd
    have HR := Lib.hid hRd
    have HW2 := Lib.hid hw2
    have HLen := Lib.hid hlen
    have hag : ∀ u, u < v → (cs.set v (left : Int)).getD u 0 = cs.getD u 0 := fun u hu => by rw [getD_set' (by omega), if_neg (by omega)]
    have HAg := Lib.hid hag
    have HE := Lib.hid hE
    clear hw hw2 hJ hY hj hj2 hE hRd hlen hag hfl hcl
    refine callsIn_of_wp Tryz.func144 rfl trivial ?_ rfl
    simp only [Tryz.ntmps144, List.size_toArray, List.length_cons, List.length_nil, Nat.reduceAdd, Nat.reduceSub, Array.replicate_succ, Array.replicate_zero, List.push_toArray, List.append_toArray, List.nil_append, List.cons_append]
    generalize cs.getD v 0 = cv at *
    gi_wp2_with fail
    refine ⟨fun h => (by simp [Fence.wide] at h), HR.out.mono ?_⟩
    rintro e W3 (⟨rfl, h1, h2⟩ | ⟨rfl, h1⟩)
    · have HC3 := Lib.hid (HW2.out.keep h2)
      have HJ3 := Lib.hid h1
      clear h1 h2 hy
      gi_wp2
      refine bodyPost_ret (results_tmp rfl _ _ _) rfl ?_
      exact .inl ⟨rfl, [(.slice (some ⟨s + 1, 0, none⟩) (v + 1) (v + 1), cs.set v (left : Int))], _, by simp [fillF], HJ3.out, HLen.out, HAg.out, HC3.out⟩
    · have HJx := Lib.hid h1
      clear h1 hy
      gi_wp2
      refine bodyPost_ret (results_tmp rfl _ _ _) rfl ?_
      exact .inr ⟨rfl, _, HJx.out⟩
  | succ m ih =>
    intro v hvn N left cs pre W hlf hcl hE hj hw
    have c1 := hw.k.cell 0
    have t1 : ((v : Int) == (n : Int) - 1) = false := by rw [beq_eq_false_iff_ne]; omega
    have HW := Lib.hid hw
    have HJ := Lib.hid hJ
    have HY := Lib.hid hY
    have HJW := Lib.hid hj
    have HE := Lib.hid hE
    have HIh := Lib.hid ih
    have HCl := Lib.hid hcl
    clear hw hJ hY hj hE hcl ih
    refine callsIn_of_wp Tryz.func144 rfl trivial ?_ rfl
    simp only [Tryz.ntmps144, List.size_toArray, List.length_cons, List.length_nil, Nat.reduceAdd, Nat.reduceSub, Array.replicate_succ, Array.replicate_zero, List.push_toArray, List.append_toArray, List.nil_append, List.cons_append]
    gi_wp2_with fail
    clear c1
    gi_loopg [23] (left + 1) (fun k x wr => ∃ (j : Nat) (ys : List (Value × List Int)) (cs' : List Int), j + k = left + 1 ∧ x = .int .i64 (j : Int) ∧ Hid (ys.map (·.2) = fillK m v left cs j) ∧ Hid (J (pre ++ ys) wr) ∧ Hid (cs'.length = n) ∧ Hid (∀ u, u < v → cs'.getD u 0 = cs.getD u 0) ∧ Hid (DvS B0 s n l cs' wr))
    case atStart => exact ⟨0, [], cs, by omega, rfl, rfl, by simpa [Hid] using HJW.out, HCl.out, fun _ _ => rfl, HW.out⟩
    case round =>
      obtain ⟨j, ys, cs', hjk, rfl, hys, hj, hcl, hag, hw⟩ := hrel
      obtain ⟨wo, rfl⟩ : ∃ wo : World, wo = wr := ⟨_, rfl⟩
      by_cases hlt : j < left + 1
      · have hvl : v < cs'.length := by rw [hcl.out]; omega
        have b3 := hw.out.b.cell 0
        obtain ⟨-, -, g1, g2, -⟩ := OI.at' hw.out.c (k := v) hvl
        have hw2 := hw.out.set hB (v := v) hvl (j : Int)
        have hj2 := HJ.out _ _ _ hj.out ((Fr.refl [s + 1] wo).setCell (p := ⟨s + 1, v, none⟩) (.inl (by simp)) (.int .i64 (j : Int)))
        have f2 := hw2.f.cell 0
        have hcl2 : (cs'.set v (j : Int)).length = n := by rw [List.length_set]; exact hcl.out
        have hag2 : ∀ u, u < v + 1 → (cs'.set v (j : Int)).getD u 0 = (cs.set v (j : Int)).getD u 0 := fun u hu => set_agree (by rw [hcl.out, HCl.out]) hag.out hvl hu
        have hfe : fillF m (v + 1) (left - j) (cs'.set v (j : Int)) = fillF m (v + 1) (left - j) (cs.set v (j : Int)) := fillF_agree m (v + 1) (left - j) _ _ (by omega) hcl2 (by rw [List.length_set]; exact HCl.out) hag2
        have hi := HIh.out (v + 1) (by omega) (N - 1) (left - j) (cs'.set v (j : Int)) (pre ++ ys) _ (by omega) hcl2 (by
          obtain ⟨rest, h⟩ := HE.out
          obtain ⟨rest2, h2⟩ := fillK_split (m := m) (v := v) (cs := cs) hlt
          refine ⟨rest2 ++ rest, ?_⟩
          rw [← h, h2, hfe, List.map_append, hys.out]
          simp [List.append_assoc]) hj2 hw2
        rw [Int.natCast_succ, show ((left - j : Nat) : Int) = (left : Int) - (j : Int) by omega] at hi
        have HI := Lib.hid hi
        have HFe := Lib.hid hfe
        have HAg2 := Lib.hid hag2
        clear hi hfe hag2 hcl2 hj2 hw2 hvl
        generalize cs'.getD v 0 = cv at *
        obtain ⟨K, hK⟩ : ∃ K, K = gk - 1 := ⟨_, rfl⟩
        gi_wp2_with fail
        refine ⟨trivial, fun h => (by simp [Fence.wide] at h), HI.out.mono ?_⟩
        rintro e W2 (⟨rfl, xs, cs2, hx, hj2, hl2, ha2, hc2⟩ | ⟨rfl, pre', hjx⟩)
        · have HX := Lib.hid hx
          have HJ2 : Hid (J (pre ++ (ys ++ xs)) W2) := by show J _ _; rw [← List.append_assoc]; exact hj2
          have HL2 := Lib.hid hl2
          have HA2 : Hid (∀ u, u < v → cs2.getD u 0 = cs.getD u 0) := fun u hu => by rw [ha2 u (by omega), HAg2.out u (by omega), getD_set' (by rw [HCl.out]; omega), if_neg (by omega)]
          have HC2 := Lib.hid hc2
          clear hx hj2 hl2 ha2 hc2 b3 g1 g2 f2
          gi_wp2
          gi_roundg K
          case measure => omega
          case rel => exact ⟨j + 1, ys ++ xs, cs2, by omega, by go_num, by show _ = _; rw [List.map_append, hys.out, HX.out, HFe.out, fillK_succ], HJ2.out, HL2.out, HA2.out, HC2.out⟩
        · have HJx := Lib.hid hjx
          clear hjx b3 g1 g2 f2
          gi_wp2
          refine bodyPost_ret (results_tmp rfl _ _ _) rfl ?_
          exact .inr ⟨rfl, _, HJx.out⟩
      · obtain rfl : j = left + 1 := by omega
        gi_wp2
        refine bodyPost_ret (results_tmp rfl _ _ _) rfl ?_
        exact .inl ⟨rfl, ys, cs', hys.out, hj.out, hcl.out, hag.out, hw.out⟩
end Go.Proofs.YtgcnijmmjlfabaaGreatDoor

namespace Go.Proofs.YtgcnijmmjlfabaaGreatDoor
open Go.RowKit Go.Shelf
attribute [local go_sem] Oper.semAt_some

theorem run_store_func58 (P : Program) (w : World) (a : Addr) (m : Mode) (f : Fn) (b c : Array Value) : (store a (.func f b c) m).run P w = stored P w a (.func f b c) m := run_store P w a _ m rfl
attribute [local go_sem] run_store_func58
/-- The effective divisors of a degree, in the order in which they come. -/
def dvsL (n deg : Nat) : List (List Int) := fillF (n - 1) 0 deg (List.replicate n 0)
theorem divisors_any (n deg : Nat) (w : World) : Calls Tryz.prog 112 #[.int .i64 (n : Int), .int .i64 (deg : Int)] w fun e w' =>
    e = .returned (.func (.func 143) #[] #[.pointer (some ⟨w.heap.size, 0, none⟩), .pointer (some ⟨w.heap.size + 1, 0, none⟩)]) ∧
      (w.alloc (.cells #[.int .i64 (n : Int)] 3)).alloc (.cells #[.int .i64 (deg : Int)] 3) = w' := by
  go_enter Tryz.func112, Tryz.ntmps112
  go_wp2
  go_ret
  exact ⟨rfl, rfl⟩
theorem dv_iter (B0 D0 s n deg : Nat) (hn1 : 1 ≤ n) (hn : n ≤ 12) (hd : deg ≤ 12) (hB : B0 < s) (hD : D0 < s) :
    IterW Tryz.prog 143 #[.pointer (some ⟨B0, 0, none⟩), .pointer (some ⟨D0, 0, none⟩)] (fun x : Value × List Int => #[x.1]) (DvIt s n (dvsL n deg)) (fun A B => Fr [s + 1] A B) (LkK [B0, s, s + 1, s + 2, s + 3])
      (fun xs _ => xs.map (·.2) = dvsL n deg) (fun _ _ => True) (fun W => W.heap.size = s ∧ BL W B0 3 [.int .i64 (n : Int)] ∧ BL W D0 3 [.int .i64 (deg : Int)]) := by
  rintro N l J Jx W ⟨hsz, hg, hk⟩ hJ hJx hY h0
  have hmk := run_make_row' (P := Tryz.prog) 42 3 (.int .i64 0) 8 Tryz.underlying42 int_info rfl .i64 .i64 n (by omega) (by omega)
  have c0 := hg.cell 0
  obtain ⟨W1, hW1⟩ : ∃ W1, W1 = W.alloc (.cells #[.func (.yield l) #[] #[]] 107) := ⟨_, rfl⟩
  obtain ⟨W2, hW2⟩ : ∃ W2, W2 = W1.alloc (.cells (madeCells #[Value.int .i64 0] n) 3) := ⟨_, rfl⟩
  obtain ⟨W3, hW3⟩ : ∃ W3, W3 = W2.alloc (.cells #[.slice (some ⟨s + 1, 0, none⟩) n n] 42) := ⟨_, rfl⟩
  have hb1 : Below W.heap.size W W1 := by rw [hW1]; exact below_alloc W _
  have hb2 : Below W1.heap.size W1 W2 := by rw [hW2]; exact below_alloc W1 _
  have hb3 : Below W2.heap.size W2 W3 := by rw [hW3]; exact below_alloc W2 _
  have z1 : W1.heap.size = s + 1 := by rw [hW1]; simp; omega
  have z2 : W2.heap.size = s + 2 := by rw [hW2]; simp; omega
  have z3 : W3.heap.size = s + 3 := by rw [hW3]; simp; omega
  have o2 : OI W2 (s + 1) (.slice (some ⟨s + 1, 0, none⟩) n n) (List.replicate n 0) := by
    have h := own_zeros W1 n (by omega)
    rw [← hW2, z1] at h
    exact h
  have y1 : BL W1 s 107 [.func (.yield l) #[] #[]] := by rw [hW1, ← hsz]; exact BL.new' W _ _
  have x3 : BL W3 (s + 2) 42 [.slice (some ⟨s + 1, 0, none⟩) n n] := by rw [hW3, ← z2]; exact BL.new' W2 _ _
  obtain ⟨fv, hfv⟩ : ∃ fv : Value, fv = .func (.func 144) #[] #[.pointer (some ⟨B0, 0, none⟩), .pointer (some ⟨s + 2, 0, none⟩), .pointer (some ⟨s, 0, none⟩), .pointer (some ⟨s + 3, 0, none⟩)] := ⟨_, rfl⟩
  obtain ⟨W4, hW4⟩ : ∃ W4, W4 = W3.alloc (.cells #[fv] 161) := ⟨_, rfl⟩
  have hb4 : Below W3.heap.size W3 W4 := by rw [hW4]; exact below_alloc W3 _
  have x4 : BL W4 (s + 3) 161 [fv] := by rw [hW4, ← z3]; exact BL.new' W3 _ _
  have hbW : Below W.heap.size W W4 := hb1.trans ((hb2.trans ((hb3.trans (hb4.mono hb3.size)).mono hb2.size)).mono hb1.size)
  have k2 := (hk.bel hbW).cell 0
  have k3 : ∀ o : Obj, ((((W.alloc (.cells #[.func (.yield l) #[] #[]] 107)).alloc (.cells (madeCells #[Value.int .i64 0] n) 3)).alloc (.cells #[.slice (some ⟨s + 1, 0, none⟩) n n] 42)).alloc o).cell? ⟨D0, 0, none⟩ = some (.int .i64 (deg : Int)) := fun o => ((((hk.alloc _).alloc _).alloc _).alloc o).cell 0
  have hJ5 := hJ _ _ _ h0 ((Fr.refl [s + 1] W).below hbW)
  have hC5 : DvS B0 s n l (List.replicate n 0) W4 :=
    ⟨hg.bel hbW, ((y1.bel hb2).bel hb3).bel hb4, OI.below (OI.below o2 hb3) hb4, x3.bel hb4, by rw [← hfv]; exact x4⟩
  have hFr := fun N' => fill_any B0 s n l hn hB (dvsL n deg) J Jx hJ (fun N'' pre x W1 h1 h2 => yieldAt_any (hY pre x W1 h1 h2)) (n - 1) 0 (by omega) N' deg (List.replicate n 0) [] _ hd (by simp) ⟨[], by simp [dvsL]⟩ hJ5 hC5
  have HFr := Lib.hid hFr
  have HW4 : Hid (W4 = (((W.alloc (.cells #[.func (.yield l) #[] #[]] 107)).alloc (.cells (madeCells #[Value.int .i64 0] n) 3)).alloc (.cells #[.slice (some ⟨s + 1, 0, none⟩) n n] 42)).alloc (.cells #[fv] 161)) := by show _ = _; rw [hW4, hW3, hW2, hW1]
  have HFv := Lib.hid hfv
  rw [HFv.out] at HW4
  clear hg hk y1 o2 x3 x4 hJ5 hC5 hFr hJ hY hJx h0 hb1 hb2 hb3 hb4 hbW hW1 hW2 hW3 hW4 z1 z2 z3 hfv
  subst hsz
  refine callsIn_of_wp Tryz.func143 rfl trivial ?_ rfl
  simp only [Tryz.ntmps143, List.size_toArray, List.length_cons, List.length_nil, Nat.reduceAdd, Nat.reduceSub, Array.replicate_succ, Array.replicate_zero, List.push_toArray, List.append_toArray, List.nil_append, List.cons_append]
  gi_wp2_with fail
  rw [← HW4.out]
  clear k3
  refine ⟨trivial, fun h => (by simp [Fence.wide] at h), (HFr.out (N - 1)).mono ?_⟩
  rintro e W5 (⟨rfl, xs, cs', hx, hj, -, -, -⟩ | ⟨rfl, pre', hjx⟩)
  · have HX := Lib.hid hx
    have HJ5 := Lib.hid hj
    clear hx hj
    gi_wp2
    refine bodyPost_end (results_none rfl _ _ _) rfl ?_
    exact ⟨⟨_, rfl⟩, .inl ⟨xs, HX.out, by simpa using HJ5.out⟩⟩
  · have HJx := Lib.hid hjx
    clear hjx
    gi_wp2
    refine bodyPost_end (results_none rfl _ _ _) rfl ?_
    exact ⟨⟨_, rfl⟩, .inr ⟨pre', trivial, HJx.out⟩⟩
end Go.Proofs.YtgcnijmmjlfabaaGreatDoor

namespace Go.Proofs.YtgcnijmmjlfabaaGreatDoor
open Go.RowKit Go.Shelf

def noDefer (o : Oper) : Bool := match o.op with | .defer _ => false | _ => true
variable {P : Program}
theorem rowsIn_wide {n : Nat} {row : String} {args : Array Value} {w : World} {R : Value → World → Prop} (h : Rows P row args w R) : RowsIn Fence.wide n P row args w R :=
  fun c cs _ => let ⟨v, w', r, s⟩ := h c cs; ⟨v, w', r, stepsIn_wide.2 s⟩
theorem opIn_of_wp {l N : Nat} {o : Oper} {a : Act} {w : World} {K : Act → World → Prop} {Q : Exit → Act → World → Prop} (hs : noDefer o = true) (h : o.wp P a w K Q) : o.wpIn (Fence.wide.inRound l) N P a w K Q := by
  refine ⟨fun _ _ => trivial, ?_⟩
  rw [Oper.semAt_plain (Fence.wide.inRound l) _ _ (by intro c hc; unfold noDefer at hs; rw [hc] at hs; cases hs)]
  unfold Oper.wp at h
  generalize (execOp a.eval o).run P w = r at h
  match r, h with
  | .ok (.value v) w', h => exact h
  | .ok .skip w', h => exact h
  | .ok (.defer d) w', h => exact h
  | .ok (.enter f args) w', h => exact ⟨fun h => (by simp [Fence.wide, Fence.inRound] at h), CallsIn.inRound l (callsIn_wide.2 h)⟩
  | .ok (.row row args) w', h => exact ⟨fun h => (by simp [Fence.wide, Fence.inRound] at h), rowsIn_wide h⟩
  | .halt (.panic v) w', h => exact h
theorem anyIn_of_any2 {l N : Nat} {md : Region.Mode} {ops : Array Oper} {Q : Exit → Act → World → Prop} (hs : ∀ o ∈ ops, noDefer o = true) (hf : ∀ o ∈ ops, ∀ w (ρ : Operand → Value) f, o.about P w ρ = some f → (Fence.wide.inRound l).fn f) (hQ : ¬ LetsOut Q) (fuel : Nat) (listed : Array Bool) (a : Act) (w : World)
    (h : wpAny P md ops Q fuel listed a w) : wpAnyIn (Fence.wide.inRound l) N P md ops Q fuel listed a w := by
  induction fuel generalizing listed a w with
  | zero => exact h
  | succ fuel ih =>
    refine ⟨h.1, fun i hi => ?_⟩
    have hi' := h.2 i hi
    unfold wpOp at hi'
    unfold wpOpIn
    cases ho : ops[i]? with
    | none => rw [ho] at hi'; exact ih _ _ _ hi'
    | some o =>
      rw [ho] at hi'
      have hm : o ∈ ops := Array.mem_of_getElem? ho
      dsimp only at hi' ⊢
      split at hi'
      · next c =>
        rw [if_pos c]
        rcases hi' with hi' | hi'
        · have := opIn_of_wp (l := l) (N := N) (hs o hm) hi'
          exact Oper.wpIn_mono (fun a w h => ih _ _ _ h) this
        · exact absurd hi'.2 hQ
      · next c =>
        rw [if_neg c]
        exact ⟨fun f hf' => hf o hm _ _ f hf', ih _ _ _ hi'⟩
/-- A region in a round, with a condition that is held. -/
theorem held_round {l N id : Nat} {Q : Exit → Act → World → Prop} {a : Act} {w : World} {ops : Array Oper} {S : World → Prop} (hm : P.follows .mixedOrders = true) (hs : ops.all noDefer = true) (hQ : ¬ LetsOut Q) (hS : S w.drew)
    (h : S w.drew → wpAnyH P .any ops Q S ops.size (Array.replicate ops.size false) a w.drew) : (Code.region id ops true).wpIn (Fence.wide.inRound l) N P Q a w :=
  wpIn_region_any hm (anyIn_of_any2 (fun o ho => Array.all_eq_true'.1 hs o ho) (fun _ _ _ _ _ _ => trivial) hQ _ _ _ _ (wpAny_of_held _ _ _ _ (h hS)))
end Go.Proofs.YtgcnijmmjlfabaaGreatDoor

