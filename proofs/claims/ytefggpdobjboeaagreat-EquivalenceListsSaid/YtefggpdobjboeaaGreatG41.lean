/- Contracts of the references' Order of divisors and Sorted.
   Contract of the reference's Listed. -/
import Derived.Test.YtefggpdobjboeaaGreatG40
namespace Go.Proofs.YtefggpdobjboeaaGreat
open Go.RowKit Go.Shelf

theorem ordL_lt {x y : Int} (xs ys : List Int) (h : x < y) : cmpL (x :: xs) (y :: ys) = -1 := by
  have e : cmpI x y = -1 := sgn_lt h
  rw [cmpL, e]; rfl
theorem ordL_gt {x y : Int} (xs ys : List Int) (h : y < x) : cmpL (x :: xs) (y :: ys) = 1 := by
  have e : cmpI x y = 1 := sgn_gt h
  rw [cmpL, e]; rfl
theorem ordL_eq (x : Int) (xs ys : List Int) : cmpL (x :: xs) (x :: ys) = cmpL xs ys := by
  have e : cmpI x x = 0 := sgn_eq rfl
  rw [cmpL, e]; rfl
set_option maxRecDepth 100000 in
set_option maxHeartbeats 2000000 in
theorem rOrd_any (va vb : Value) (xs ys : List Int) (w : World) (ha : RI w va xs) (hb : RI w vb ys) (hl : xs.length = ys.length) :
    Calls Tryz.prog 147 #[va, vb] w fun e w' => e = .returned (.int .i64 (cmpL xs ys)) ∧ ∃ n, w' = w.drewN n := by
  obtain ⟨A, c, rfl, hlc, hc, hcell⟩ := ha.open_
  obtain ⟨A', c', rfl, hlc', hc', hcell'⟩ := hb.open_
  have HA := Lib.hid hcell
  have HB := Lib.hid hcell'
  have HL := Lib.hid hl
  clear hcell hcell' ha hb hl
  go_enter Tryz.func147, Tryz.ntmps147
  go_wp2
  go_loopw [5] (fun i wr => ∃ k : Nat, k ≤ xs.length ∧ i = .int .i64 k ∧ Hid (cmpL (xs.drop k) (ys.drop k) = cmpL xs ys) ∧ Dr w wr) (fun i _ => xs.length - (intOf i).toNat)
  case atStart => exact ⟨0, Nat.zero_le _, rfl, rfl, Dr.refl _⟩
  case round =>
    obtain ⟨k, hk, rfl, he, hdr⟩ := hrel
    by_cases hlt : k < xs.length
    · obtain ⟨ad, z, rfl, _, hz, hcl⟩ := HA.out k hlt
      have hlt' : k < ys.length := by have := HL.out; omega
      obtain ⟨ad', z', rfl, _, hz', hcl'⟩ := HB.out k hlt'
      have hcw := (hdr.cell _).trans hcl
      have hcw' := (hdr.cell _).trans hcl'
      have HD := Lib.hid (drop_at hz)
      have HD' := Lib.hid (drop_at hz')
      clear HA HB
      by_cases c1 : z < z'
      · have HR : Hid (cmpL xs ys = -1) := by show _ = _; rw [← he.out, HD.out, HD'.out, ordL_lt _ _ c1]
        go_wp2_with fail
        go_quiet (fail)
        go_wp2
        go_ret
        exact ⟨ret_i HR.out.symm, (by obtain ⟨n, rfl⟩ := hdr; exact ⟨n + nq, World.drewN_drewN ..⟩)⟩
      · by_cases c2 : z' < z
        · have HR : Hid (cmpL xs ys = 1) := by show _ = _; rw [← he.out, HD.out, HD'.out, ordL_gt _ _ c2]
          go_wp2_with fail
          go_quiet (fail)
          go_wp2_with fail
          go_quiet (fail)
          go_wp2
          go_ret
          refine ⟨ret_i HR.out.symm, ?_⟩
          show Dr w _
          repeat (first | assumption | exact Dr.refl _ | apply Dr.drewN | apply Dr.drew)
        · obtain rfl : z' = z := by omega
          have HR : Hid (cmpL (xs.drop (k + 1)) (ys.drop (k + 1)) = cmpL xs ys) := by show _ = _; rw [← he.out, HD.out, HD'.out, ordL_eq]
          go_wp2_with fail
          go_quiet (fail)
          go_wp2_with fail
          go_quiet (fail)
          go_wp2
          go_roundw
          case rel => exact ⟨k + 1, by omega, by go_num, HR.out, (by repeat (first | assumption | exact Dr.refl _ | apply Dr.drewN | apply Dr.drew))⟩
          case measure => simp [intOf]; omega
    · have HR : Hid (cmpL xs ys = 0) := by
        show _ = _
        rw [← he.out, List.drop_of_length_le (by omega), List.drop_of_length_le (by have := HL.out; omega)]; rfl
      go_wp2
      go_ret
      exact ⟨ret_i HR.out.symm, hdr⟩
/-! Insertion. -/
def posL (x : List Int) (out : List (List Int)) : Nat := (out.takeWhile fun y => decide (cmpL y x < 0)).length
def insL (x : List Int) (out : List (List Int)) : List (List Int) := out.take (posL x out) ++ [x] ++ out.drop (posL x out)
def sortK (l : List (List Int)) (k : Nat) : List (List Int) := (l.take k).foldl (fun out x => insL x out) []
theorem sortK_succ {l : List (List Int)} {k : Nat} {x : List Int} (h : l[k]? = some x) : sortK l (k + 1) = insL x (sortK l k) := by
  unfold sortK; rw [List.take_add_one, h, List.foldl_append]; rfl
theorem posL_le (x : List Int) (out : List (List Int)) : posL x out ≤ out.length := by
  unfold posL; exact (List.takeWhile_sublist _).length_le
theorem insL_perm (x : List Int) (out : List (List Int)) : (insL x out).Perm (x :: out) := by
  unfold insL
  have h : (out.take (posL x out) ++ [x] ++ out.drop (posL x out)).Perm (x :: (out.take (posL x out) ++ out.drop (posL x out))) := by
    rw [List.append_assoc]; exact List.perm_middle
  rwa [List.take_append_drop] at h
theorem sortK_perm (l : List (List Int)) (k : Nat) (hk : k ≤ l.length) : (sortK l k).Perm (l.take k) := by
  induction k with
  | zero => exact List.Perm.refl _
  | succ k ih =>
    have h := List.getElem?_eq_getElem (show k < l.length by omega)
    rw [sortK_succ h]
    refine (insL_perm _ _).trans ?_
    rw [List.take_add_one, h]
    exact (List.Perm.cons _ (ih (by omega))).trans (List.perm_append_singleton _ _).symm
theorem sortK_len (l : List (List Int)) (k : Nat) (hk : k ≤ l.length) : (sortK l k).length = k := by
  rw [(sortK_perm l k hk).length_eq, List.length_take, Nat.min_eq_left hk]
/-- Where the search stands: all before are less. -/
def lowTo (x : List Int) (out : List (List Int)) (a : Nat) : Prop := ∀ (j : Nat) (y : List Int), j < a → out[j]? = some y → cmpL y x < 0
theorem pos_stop {x : List Int} {out : List (List Int)} {a : Nat} (ha : a ≤ out.length) (h : lowTo x out a) (hs : ∀ y, out[a]? = some y → ¬ cmpL y x < 0) : posL x out = a := by
  induction out generalizing a with
  | nil => simp at ha; subst ha; rfl
  | cons z r ih =>
    unfold posL
    cases a with
    | zero =>
      have := hs z (by simp)
      rw [List.takeWhile_cons_of_neg (by simpa using this)]; rfl
    | succ a =>
      have h0 := h 0 z (by omega) (by simp)
      rw [List.takeWhile_cons_of_pos (by simpa using h0)]
      have := ih (a := a) (by simpa using ha) (fun j y hj hy => h (j + 1) y (by omega) (by simpa using hy)) fun y hy => hs y (by simpa using hy)
      unfold posL at this
      simp [this]
theorem RV.take {w : World} {A : Option Addr} {n c : Nat} {us : List Value} (h : RV w (.slice A n c) us) {a : Nat} (ha : a ≤ us.length) : RV w (.slice A a c) (us.take a) := by
  obtain ⟨A', c', h1, h2, h3, h4⟩ := h
  simp only [Value.slice.injEq] at h1
  obtain ⟨rfl, rfl, rfl⟩ := h1
  have e : (us.take a).length = a := by rw [List.length_take, Nat.min_eq_left ha]
  refine ⟨A, c, by rw [e], by omega, by omega, fun k hk => ?_⟩
  rw [e] at hk
  obtain ⟨ad, r1, r2, r3⟩ := h4 k (by omega)
  exact ⟨ad, r1, r2, by rw [List.getElem?_take_of_lt hk]; exact r3⟩
theorem RV.drop {w : World} {ao : Addr} {n c : Nat} {us : List Value} (h : RV w (.slice (some ao) n c) us) {a : Nat} (ha : a ≤ us.length) : RV w (.slice (some (ao.add a)) (n - a) (c - a)) (us.drop a) := by
  obtain ⟨A', c', h1, h2, h3, h4⟩ := h
  simp only [Value.slice.injEq] at h1
  obtain ⟨rfl, rfl, rfl⟩ := h1
  refine ⟨some (ao.add a), c - a, by rw [List.length_drop], by rw [List.length_drop]; omega, by rw [List.length_drop]; omega, fun k hk => ?_⟩
  rw [List.length_drop] at hk
  obtain ⟨ad, r1, r2, r3⟩ := h4 (a + k) (by omega)
  cases r1
  exact ⟨_, rfl, by rw [block_of_add]; exact r2, by rw [add_of_add, List.getElem?_drop]; exact r3⟩
theorem ins_rel {P : Value → List Int → Prop} {us : List Value} {rows : List (List Int)} {ux : Value} {x : List Int} {a : Nat} (hl : us.length = rows.length) (ha : a ≤ rows.length) (h : ∀ (k : Nat) (row : List Int), rows[k]? = some row → ∃ u, us[k]? = some u ∧ P u row) (hx : P ux x) :
    ∀ (k : Nat) (row : List Int), (rows.take a ++ [x] ++ rows.drop a)[k]? = some row → ∃ u, (us.take a ++ [ux] ++ us.drop a)[k]? = some u ∧ P u row := by
  intro k row hk
  have e1 : (rows.take a).length = a := by rw [List.length_take, Nat.min_eq_left ha]
  have e2 : (us.take a).length = a := by rw [List.length_take, Nat.min_eq_left (by omega)]
  have e3 : (rows.take a ++ [x]).length = a + 1 := by simp [e1]
  have e4 : (us.take a ++ [ux]).length = a + 1 := by simp [e2]
  rcases Nat.lt_trichotomy k a with c | c | c
  · rw [List.getElem?_append_left (by omega), List.getElem?_append_left (by omega), List.getElem?_take_of_lt c] at hk
    rw [List.getElem?_append_left (by omega), List.getElem?_append_left (by omega), List.getElem?_take_of_lt c]
    exact h k row hk
  · subst c
    rw [List.getElem?_append_left (by omega), List.getElem?_append_right (by omega), e1, Nat.sub_self] at hk
    rw [List.getElem?_append_left (by omega), List.getElem?_append_right (by omega), e2, Nat.sub_self]
    simp only [List.getElem?_cons_zero, Option.some.injEq] at hk
    subst hk
    exact ⟨ux, rfl, hx⟩
  · rw [List.getElem?_append_right (by omega), e3, List.getElem?_drop] at hk
    rw [List.getElem?_append_right (by omega), e4, List.getElem?_drop]
    exact h _ row hk
theorem RV.any0 (W : World) (A : Option Addr) (c : Nat) : RV W (.slice A 0 c) [] := ⟨A, c, rfl, by simp, by simp, fun k hk => by simp at hk⟩
theorem own_emptyR (w : World) : OV (w.alloc (.cells #[] 25)) w.heap.size 25 (.slice (some ⟨w.heap.size, 0, none⟩) 0 0) [] :=
  ⟨World.ownsRow_made w #[] 0 (Nat.le_refl _) (by unfold maxLen; omega) (by simp), by simp⟩
set_option maxRecDepth 100000 in
set_option maxHeartbeats 8000000 in
theorem rSorted_any (va : Value) (l : List (List Int)) (n : Nat) (w : World) (ha : RR w va l) (hl : l.length ≤ 20000) (hn : ∀ x ∈ l, x.length = n) :
    Calls Tryz.prog 103 #[va] w fun e w' => ∃ v, e = .returned v ∧ Below w.heap.size w w' ∧ RR w' v (sortK l l.length) := by
  obtain ⟨j0, hj, hj0, hj1, hj2⟩ := info_parts ints_info
  obtain ⟨A, c, rfl, hlc, hlb, hrows⟩ := ha.open_
  have HRows := Lib.hid hrows
  have HMem : Hid (∀ k x, k ≤ l.length → x ∈ sortK l k → x.length = n) := fun k x hk hx => hn x ((List.take_sublist _ _).subset ((sortK_perm l k hk).subset hx))
  have HNl : Hid (∀ (k : Nat) (x : List Int), l[k]? = some x → x.length = n) := fun k x hx => hn x (List.mem_of_getElem? hx)
  have HLen : Hid (∀ k, k ≤ l.length → (sortK l k).length = k) := fun k hk => sortK_len l k hk
  clear ha hrows hn
  go_enter Tryz.func103, Tryz.ntmps103
  go_wp2_with fail
  go_loopw [3, 4] (fun o ii wr => ∃ (i : Nat) (vo : Value), vo = o ∧ i ≤ l.length ∧ ii = .int .i64 (i : Int) ∧ Hid (QL w wr o (sortK l i)) ∧ Hid (Below w.heap.size w wr)) (fun _ i _ => l.length - (intOf i).toNat)
  case atStart => exact ⟨0, _, rfl, Nat.zero_le _, rfl, ⟨[], OV.nil_ _ _ _, rfl, fun k z h => by simp [sortK] at h⟩, Below.refl _ _⟩
  case round =>
    obtain ⟨i, vo, rfl, hi, rfl, hq, hb⟩ := hrel
    by_cases hlt : i < l.length
    · obtain ⟨ad, x, A1, c1, rfl, hadb, hx, hcl, hxr⟩ := HRows.out i hlt
      obtain ⟨us, q1, q2, q3⟩ := hq.out
      have hrv := q1.rv
      obtain ⟨Ao, co, rfl, ho1, ho2, ho3⟩ := q1.rv
      have hli := HLen.out i (by omega)
      have hus : us.length = i := by rw [q2, hli]
      have HQ1 := Lib.hid q1
      have HQ2 := Lib.hid q2
      have HQ3 := Lib.hid q3
      rw [hus] at hrv
      have HRv := Lib.hid hrv
      have HO3 := Lib.hid ho3
      have HXr := Lib.hid hxr
      have HCl := Lib.hid hcl
      have HAdb := Lib.hid hadb
      have HUs := Lib.hid hus
      have HBwr := Lib.hid hb.out
      have HOneU : Hid (∀ u ∈ us, u.oneCell' = true) := fun u hu => by
        obtain ⟨k, hk, rfl⟩ := List.mem_iff_getElem.1 hu
        obtain ⟨u', h1, h2⟩ := q3 k _ (List.getElem?_eq_getElem (show k < (sortK l i).length by rw [← q2]; exact hk))
        rw [List.getElem?_eq_getElem hk] at h1
        cases h1
        obtain ⟨A5, c5, e5, -⟩ := h2.open_
        rw [e5]; rfl
      rw [hus]
      rw [hus] at ho1 ho2
      have HNx := Lib.hid (HNl.out i x hx.out)
      have HSu := Lib.hid (sortK_succ hx.out)
      have HMm := Lib.hid (fun y => HMem.out i y (by omega))
      clear q1 q2 q3 hrv ho3 hxr hcl hadb hus hq
      have HLi := Lib.hid hli
      clear hli
      generalize sortK l i = rows at *
      obtain ⟨wo, rfl⟩ : ∃ wo, wo = wr := ⟨_, rfl⟩
      go_wp2_with fail
      go_loopw [5] (fun aa wr => ∃ a : Nat, a ≤ i ∧ aa = .int .i64 (a : Int) ∧ Hid (lowTo x rows a) ∧ Hid (Below wo.heap.size wo wr)) (fun a _ => i - (intOf a).toNat)
      case atStart => exact ⟨0, Nat.zero_le _, rfl, fun j y hj => absurd hj (by omega), Below.refl _ _⟩
      case round =>
        obtain ⟨a, hai, rfl, hlow, hba⟩ := hrel
        have hcx := (HBwr.out.trans (hba.out.mono HBwr.out.size)).cell (p := ad.add i) (by rw [block_of_add]; exact HAdb.out) |>.trans HCl.out
        by_cases hat : a < i
        · obtain ⟨y, hy⟩ : ∃ y, rows[a]? = some y := ⟨_, List.getElem?_eq_getElem (by rw [HLi.out]; exact hat)⟩
          have hym := List.mem_of_getElem? hy
          obtain ⟨u, hu1, hu2⟩ := HQ3.out a y hy
          obtain ⟨A2, c2, rfl, -⟩ := hu2.open_
          obtain ⟨ao, rfl, hob, hoc⟩ := HO3.out a (by rw [HUs.out]; exact hat)
          have hcy := (hba.out.cell (p := ao.add a) (by rw [block_of_add]; exact hob)).trans (hoc.trans hu1)
          have HOr : Hid (∀ m, Calls Tryz.prog 147 #[.slice A2 y.length c2, .slice A1 x.length c1] (wr.drewN m) fun e w' => e = .returned (.int .i64 (cmpL y x)) ∧ ∃ n, w' = (wr.drewN m).drewN n) := fun m =>
            rOrd_any _ _ y x _ (RI.below hu2 (below_drewN (HBwr.out.trans (hba.out.mono HBwr.out.size)) m)) (RI.below HXr.out (below_drewN (HBwr.out.trans (hba.out.mono HBwr.out.size)) m)) (by rw [HMm.out y hym, HNx.out])
          have HY := Lib.hid hy
          clear hym hu1 hu2 hob hoc hy
          by_cases hc : cmpL y x < 0
          · have HLo : Hid (lowTo x rows (a + 1)) := fun j z hj hz => by
              by_cases e : j = a
              · subst e; rw [HY.out] at hz; cases hz; exact hc
              · exact hlow.out j z (by omega) hz
            generalize cmpL y x = cv at *
            go_wp2_with fail
            go_quiet (first | (go_at_call 147; exact Calls.quiet_of (HOr.out _)))
            have HBq := Lib.hid (below_drewN hba.out nq)
            go_wp2
            go_roundw
            case rel => exact ⟨a + 1, by omega, by go_num, HLo.out, HBq.out⟩
            case measure => simp [intOf]; omega
          · have HPos : Hid (posL x rows = a) := pos_stop (by rw [HLi.out]; exact hai) hlow.out fun z hz => by rw [HY.out] at hz; cases hz; exact hc
            generalize cmpL y x = cv at *
            go_wp2_with fail
            go_quiet (first | (go_at_call 147; exact Calls.quiet_of (HOr.out _)))
            have HBz := Lib.hid (below_drewN hba.out nq)
            have hcz : (wr.drewN nq).cell? (ad.add i) = some (.slice A1 x.length c1) := hcx
            generalize wr.drewN nq = Wz at *
            have hszz := HBz.out.size
            have HE0 := Lib.hid (own_emptyR Wz)
            have hba0 := below_alloc Wz (.cells #[] 25)
            have HT0 := Lib.hid ((RV.below (RV.below HRv.out HBz.out) hba0).take (a := a) (by rw [HUs.out]; exact hai))
            have HB0 := Lib.hid (HBz.out.trans (hba0.mono hszz))
            have htl : (us.take a).length ≤ 20000 := by rw [List.length_take]; have := HUs.out; omega
            have HOn : Hid (∀ u ∈ us.take a, u.oneCell' = true) := fun u hu => HOneU.out u ((List.take_sublist _ _).subset hu)
            have HTd := Lib.hid (fun (W : World) (h : Below wo.heap.size wo W) => (RV.below HRv.out h).drop (a := a) (by rw [HUs.out]; exact hai))
            have hdl : (us.drop a).length ≤ 20000 := by rw [List.length_drop]; have := HUs.out; omega
            have HOd : Hid (∀ u ∈ us.drop a, u.oneCell' = true) := fun u hu => HOneU.out u ((List.drop_sublist _ _).subset hu)
            have HRel := Lib.hid (ins_rel (P := RI w) HQ2.out (by rw [HLi.out]; exact hai) HQ3.out HXr.out)
            have HIl : Hid ((us.take a ++ [Value.slice A1 x.length c1] ++ us.drop a).length = (insL x rows).length) := by
              show _ = _; unfold insL; rw [HPos.out]; simp [HQ2.out]
            generalize us.take a = ut at *
            generalize us.drop a = ud at *
            go_wp2_with (first | (at_builtin; refine wpList_appendV _ rfl _ _ _ rfl 25 j0 _ 24 Tryz.underlying41 hj hj0 hj1 hj2 rfl Wz.heap.size _ [] rfl HE0.out _ _ rfl HT0.out HOn.out (by first | omega | (simp; done) | (simp; omega)) (by first | omega | (simp; done) | (simp; omega)) (by first | omega | (simp; done) | (simp; omega)) ?_; intro v3 w3 hown3 hg3 hat3; have HO3 := Lib.hid (show OV w3 Wz.heap.size 25 v3 ut from (by simpa using hown3)); have HB3 := Lib.hid (below_own (B := wo.heap.size) HB0.out HB0.out.size (OV.mono HE0.out hszz) hg3); have hz3 : Wz.heap.size ≤ w3.heap.size := Nat.le_trans (below_alloc Wz _).size hg3.size; have hc3 := (HBwr.out.trans (HB3.out.mono HBwr.out.size)).cell (p := ad.add i) (by rw [block_of_add]; exact HAdb.out) |>.trans HCl.out; have hba3 := below_alloc w3 (.cells #[.slice A1 x.length c1] 25); have HO4 := Lib.hid (HO3.out.below hba3); have HR4 := Lib.hid (RV.ones w3 (.slice A1 x.length c1) 25); have HB4 := Lib.hid (HB3.out.trans (hba3.mono HB3.out.size)); clear hown3 hg3 hat3 hba3) | (at_builtin; refine wpList_appendV _ rfl _ _ _ rfl 25 j0 _ 24 Tryz.underlying41 hj hj0 hj1 hj2 rfl Wz.heap.size _ _ rfl HO4.out _ _ rfl HR4.out (one_ones rfl) (by first | omega | (simp; done) | (simp; omega)) (by first | omega | (simp; done) | (simp; omega)) (by first | omega | (simp; done) | (simp; omega)) ?_; intro v4 w4 hown4 hg4 hat4; have HO5 := Lib.hid hown4; have HB5 := Lib.hid (below_own (B := wo.heap.size) HB4.out HB4.out.size (OV.mono HO4.out hszz) hg4); have hz4 : w3.heap.size ≤ w4.heap.size := Nat.le_trans (below_alloc w3 _).size hg4.size; have HT6 := Lib.hid (HTd.out w4 HB5.out); clear hown4 hg4 hat4) | (at_builtin; refine wpList_appendV _ rfl _ _ _ rfl 25 j0 _ 24 Tryz.underlying41 hj hj0 hj1 hj2 rfl Wz.heap.size _ _ rfl HO5.out _ _ rfl HT6.out HOd.out (by first | omega | (simp; done) | (simp; omega)) (by first | omega | (simp; done) | (simp; omega)) (by first | omega | (simp; done) | (simp; omega)) ?_; intro v5 w5 hown5 hg5 hat5; have HO6 := Lib.hid hown5; have HB6 := Lib.hid (below_own (B := wo.heap.size) HB5.out HB5.out.size (OV.mono HO5.out hszz) hg5); clear hown5 hg5 hat5))
            go_roundw
            case rel =>
              refine ⟨i + 1, _, rfl, by omega, by go_num, ?_, HBwr.out.trans (HB6.out.mono HBwr.out.size)⟩
              show QL _ _ _ _
              rw [HSu.out]
              refine ⟨_, OV.mono HO6.out (Nat.le_trans HBwr.out.size hszz), HIl.out, ?_⟩
              unfold insL; rw [HPos.out]; exact HRel.out
            case measure => simp [intOf]; omega
        · obtain rfl : a = i := by omega
          have HPos : Hid (posL x rows = a) := pos_stop (by rw [HLi.out]; exact Nat.le_refl _) hlow.out fun z hz => by rw [List.getElem?_eq_none (by rw [HLi.out]; exact Nat.le_refl _)] at hz; cases hz
          cases Ao with
          | none =>
            obtain rfl : a = 0 := by
              rcases Nat.eq_zero_or_pos a with h | h
              · exact h
              · obtain ⟨ad', e, -⟩ := HO3.out 0 (by rw [HUs.out]; exact h)
                cases e
            go_wp2_with fail
            go_quiet (fail)
            have HBz := Lib.hid (below_drewN hba.out nq)
            have HCl0 : Hid (w.cell? ad = some (.slice A1 x.length c1)) := HCl.out
            clear hcx
            generalize wr.drewN nq = Wz at *
            have hszz := HBz.out.size
            have HE0 := Lib.hid (own_emptyR Wz)
            have hba0 := below_alloc Wz (.cells #[] 25)
            have HT0 := Lib.hid ((RV.below (RV.below HRv.out HBz.out) hba0).take (a := 0) (by rw [HUs.out]; exact hai))
            have HB0 := Lib.hid (HBz.out.trans (hba0.mono hszz))
            have htl : (us.take 0).length ≤ 20000 := by rw [List.length_take]; have := HUs.out; omega
            have HOn : Hid (∀ u ∈ us.take 0, u.oneCell' = true) := fun u hu => HOneU.out u ((List.take_sublist _ _).subset hu)
            have hdn : us.drop 0 = [] := by rw [List.drop_zero]; exact List.eq_nil_of_length_eq_zero HUs.out
            have HRel := Lib.hid (ins_rel (P := RI w) HQ2.out (by rw [HLi.out]; exact hai) HQ3.out HXr.out)
            have HIl : Hid ((us.take 0 ++ [Value.slice A1 x.length c1] ++ us.drop 0).length = (insL x rows).length) := by
              show _ = _; unfold insL; rw [HPos.out]; simp [HQ2.out]
            generalize us.take 0 = ut at *
            rw [hdn] at HRel HIl
            clear hdn
            go_wp2_with (first | (at_builtin; refine wpList_appendV _ rfl _ _ _ rfl 25 j0 _ 24 Tryz.underlying41 hj hj0 hj1 hj2 rfl Wz.heap.size _ [] rfl HE0.out _ _ rfl HT0.out HOn.out (by first | omega | (simp; done) | (simp; omega)) (by first | omega | (simp; done) | (simp; omega)) (by first | omega | (simp; done) | (simp; omega)) ?_; intro v3 w3 hown3 hg3 hat3; have HO3 := Lib.hid (show OV w3 Wz.heap.size 25 v3 ut from (by simpa using hown3)); have HB3 := Lib.hid (below_own (B := wo.heap.size) HB0.out HB0.out.size (OV.mono HE0.out hszz) hg3); have hz3 : Wz.heap.size ≤ w3.heap.size := Nat.le_trans (below_alloc Wz _).size hg3.size; have hc3 := (HBwr.out.trans (HB3.out.mono HBwr.out.size)).cell (p := ad) HAdb.out |>.trans HCl0.out; have hba3 := below_alloc w3 (.cells #[.slice A1 x.length c1] 25); have HO4 := Lib.hid (HO3.out.below hba3); have HR4 := Lib.hid (RV.ones w3 (.slice A1 x.length c1) 25); have HB4 := Lib.hid (HB3.out.trans (hba3.mono HB3.out.size)); clear hown3 hg3 hat3 hba3) | (at_builtin; refine wpList_appendV _ rfl _ _ _ rfl 25 j0 _ 24 Tryz.underlying41 hj hj0 hj1 hj2 rfl Wz.heap.size _ _ rfl HO4.out _ _ rfl HR4.out (one_ones rfl) (by first | omega | (simp; done) | (simp; omega)) (by first | omega | (simp; done) | (simp; omega)) (by first | omega | (simp; done) | (simp; omega)) ?_; intro v4 w4 hown4 hg4 hat4; have HO5 := Lib.hid hown4; have HB5 := Lib.hid (below_own (B := wo.heap.size) HB4.out HB4.out.size (OV.mono HO4.out hszz) hg4); have hz4 : w3.heap.size ≤ w4.heap.size := Nat.le_trans (below_alloc w3 _).size hg4.size; clear hown4 hg4 hat4) | (at_builtin; refine wpList_appendV _ rfl _ _ _ rfl 25 j0 _ 24 Tryz.underlying41 hj hj0 hj1 hj2 rfl Wz.heap.size _ _ rfl HO5.out _ [] rfl (RV.any0 _ _ _) (by simp) (by first | omega | (simp; done) | (simp; omega)) (by first | omega | (simp; done) | (simp; omega)) (by first | omega | (simp; done) | (simp; omega)) ?_; intro v5 w5 hown5 hg5 hat5; have HO6 := Lib.hid hown5; have HB6 := Lib.hid (below_own (B := wo.heap.size) HB5.out HB5.out.size (OV.mono HO5.out hszz) hg5); clear hown5 hg5 hat5))
            all_goals
              go_roundw
              case rel =>
                refine ⟨0 + 1, _, rfl, by omega, by go_num, ?_, HBwr.out.trans (HB6.out.mono HBwr.out.size)⟩
                show QL _ _ _ _
                rw [HSu.out]
                refine ⟨_, OV.mono HO6.out (Nat.le_trans HBwr.out.size hszz), HIl.out, ?_⟩
                unfold insL; rw [HPos.out]; exact HRel.out
              case measure => simp [intOf]; omega
          | some ao =>
            go_wp2_with fail
            go_quiet (fail)
            have HBz := Lib.hid (below_drewN hba.out nq)
            have hcz : (wr.drewN nq).cell? (ad.add a) = some (.slice A1 x.length c1) := hcx
            generalize wr.drewN nq = Wz at *
            have hszz := HBz.out.size
            have HE0 := Lib.hid (own_emptyR Wz)
            have hba0 := below_alloc Wz (.cells #[] 25)
            have HT0 := Lib.hid ((RV.below (RV.below HRv.out HBz.out) hba0).take (a := a) (by rw [HUs.out]; exact hai))
            have HB0 := Lib.hid (HBz.out.trans (hba0.mono hszz))
            have htl : (us.take a).length ≤ 20000 := by rw [List.length_take]; have := HUs.out; omega
            have HOn : Hid (∀ u ∈ us.take a, u.oneCell' = true) := fun u hu => HOneU.out u ((List.take_sublist _ _).subset hu)
            have hdn : us.drop a = [] := List.drop_of_length_le (by rw [HUs.out]; exact Nat.le_refl _)
            have HRel := Lib.hid (ins_rel (P := RI w) HQ2.out (by rw [HLi.out]; exact hai) HQ3.out HXr.out)
            have HIl : Hid ((us.take a ++ [Value.slice A1 x.length c1] ++ us.drop a).length = (insL x rows).length) := by
              show _ = _; unfold insL; rw [HPos.out]; simp [HQ2.out]
            generalize us.take a = ut at *
            rw [hdn] at HRel HIl
            clear hdn
            go_wp2_with (first | (at_builtin; refine wpList_appendV _ rfl _ _ _ rfl 25 j0 _ 24 Tryz.underlying41 hj hj0 hj1 hj2 rfl Wz.heap.size _ [] rfl HE0.out _ _ rfl HT0.out HOn.out (by first | omega | (simp; done) | (simp; omega)) (by first | omega | (simp; done) | (simp; omega)) (by first | omega | (simp; done) | (simp; omega)) ?_; intro v3 w3 hown3 hg3 hat3; have HO3 := Lib.hid (show OV w3 Wz.heap.size 25 v3 ut from (by simpa using hown3)); have HB3 := Lib.hid (below_own (B := wo.heap.size) HB0.out HB0.out.size (OV.mono HE0.out hszz) hg3); have hz3 : Wz.heap.size ≤ w3.heap.size := Nat.le_trans (below_alloc Wz _).size hg3.size; have hc3 := (HBwr.out.trans (HB3.out.mono HBwr.out.size)).cell (p := ad.add a) (by rw [block_of_add]; exact HAdb.out) |>.trans HCl.out; have hba3 := below_alloc w3 (.cells #[.slice A1 x.length c1] 25); have HO4 := Lib.hid (HO3.out.below hba3); have HR4 := Lib.hid (RV.ones w3 (.slice A1 x.length c1) 25); have HB4 := Lib.hid (HB3.out.trans (hba3.mono HB3.out.size)); clear hown3 hg3 hat3 hba3) | (at_builtin; refine wpList_appendV _ rfl _ _ _ rfl 25 j0 _ 24 Tryz.underlying41 hj hj0 hj1 hj2 rfl Wz.heap.size _ _ rfl HO4.out _ _ rfl HR4.out (one_ones rfl) (by first | omega | (simp; done) | (simp; omega)) (by first | omega | (simp; done) | (simp; omega)) (by first | omega | (simp; done) | (simp; omega)) ?_; intro v4 w4 hown4 hg4 hat4; have HO5 := Lib.hid hown4; have HB5 := Lib.hid (below_own (B := wo.heap.size) HB4.out HB4.out.size (OV.mono HO4.out hszz) hg4); have hz4 : w3.heap.size ≤ w4.heap.size := Nat.le_trans (below_alloc w3 _).size hg4.size; clear hown4 hg4 hat4) | (at_builtin; refine wpList_appendV _ rfl _ _ _ rfl 25 j0 _ 24 Tryz.underlying41 hj hj0 hj1 hj2 rfl Wz.heap.size _ _ rfl HO5.out _ [] rfl (RV.any0 _ _ _) (by simp) (by first | omega | (simp; done) | (simp; omega)) (by first | omega | (simp; done) | (simp; omega)) (by first | omega | (simp; done) | (simp; omega)) ?_; intro v5 w5 hown5 hg5 hat5; have HO6 := Lib.hid hown5; have HB6 := Lib.hid (below_own (B := wo.heap.size) HB5.out HB5.out.size (OV.mono HO5.out hszz) hg5); clear hown5 hg5 hat5))
            all_goals
              go_roundw
              case rel =>
                refine ⟨a + 1, _, rfl, by omega, by go_num, ?_, HBwr.out.trans (HB6.out.mono HBwr.out.size)⟩
                show QL _ _ _ _
                rw [HSu.out]
                refine ⟨_, OV.mono HO6.out (Nat.le_trans HBwr.out.size hszz), HIl.out, ?_⟩
                unfold insL; rw [HPos.out]; exact HRel.out
              case measure => simp [intOf]; omega
    · obtain rfl : i = l.length := by omega
      have HR := Lib.hid (hq.out.rr hb.out)
      clear hq
      go_wp2
      go_ret
      exact ⟨_, rfl, hb.out, HR.out⟩
end Go.Proofs.YtefggpdobjboeaaGreat

namespace Go.Proofs.YtefggpdobjboeaaGreat
open Go.RowKit Go.Shelf

theorem nrm_set {deg : Int} {c : List Int} (hc : 1 ≤ c.length) (h0 : c.getD 0 0 = 0) : c.set 0 (deg - c.sum) = nrm deg c := by
  cases c with
  | nil => simp at hc
  | cons a t =>
    simp at h0
    subst h0
    simp [nrm]
def lstL (n : Nat) (es : List Tri) (deg : Int) : List (List Int) := (calmsL n 0 es).map (nrm deg)
set_option maxRecDepth 100000 in
set_option maxHeartbeats 8000000 in
theorem rListed_any (g : Value) (n : Nat) (es : List Tri) (deg : Int) (w : World) (hg : GV w g n es) (hr : Rt n es) (hd : -1048576 ≤ deg ∧ deg ≤ 1048576) :
    Calls Tryz.prog 59 #[g, .int .i64 deg] w fun e w' => ∃ v, e = .returned v ∧ Below w.heap.size w w' ∧ RR w' v (sortK (lstL n es deg) (lstL n es deg).length) := by
  obtain ⟨i0, hi, hz0, hz1, hz2⟩ := info_parts int_info
  obtain ⟨j0, hj, hj0, hj1, hj2⟩ := info_parts ints_info
  have hn1 := hr.n1
  have hn6 := hr.n6
  obtain ⟨A, c, rfl, -⟩ := hg.open_
  obtain ⟨W0, hW0⟩ : ∃ W0, W0 = w.alloc (.cells #[.int .i64 (n:Int), .slice A es.length c] 24) := ⟨_, rfl⟩
  have hb0 : Below w.heap.size w W0 := by rw [hW0]; exact below_alloc w _
  have hx0 : BL W0 w.heap.size 24 [.int .i64 (n:Int), .slice A es.length c] := by rw [hW0]; exact BL.new' w _ _
  have c0 := hx0.cell 0
  have c1 := hx0.cell 1
  have HX0 := Lib.hid hx0
  have HG0 := Lib.hid (hg.below hb0)
  have HB0 := Lib.hid hb0
  have HW0 := Lib.hid hW0
  rw [hW0] at c0 c1
  clear hg hx0 hW0
  have HCl := Lib.hid (rCalms_any _ n 0 es W0 HG0.out hr.ed hn6 (by omega))
  have HRk : Hid (∀ (k : Nat) (x : List Int), (calmsL n 0 es)[k]? = some x → x.length = n ∧ Bd 9 x ∧ x.set 0 (deg - x.sum) = nrm deg x) := fun k x hk => by
    have hx := List.mem_of_getElem? hk
    obtain ⟨h1, h2, h3⟩ := calm_bd hr hx
    exact ⟨h1, h2, nrm_set (by omega) ((calms_iff hr).1 hx).2.1⟩
  have HSo : Hid (∀ (W : World) (v : Value), RR W v (lstL n es deg) → Calls Tryz.prog 103 #[v] W fun e w' => ∃ v, e = .returned v ∧ Below W.heap.size W w' ∧ RR w' v (sortK (lstL n es deg) (lstL n es deg).length)) := fun W v h => by
    have hf := calms_few hr
    refine rSorted_any v _ n W h (by unfold lstL; rw [List.length_map]; omega) fun x hx => ?_
    obtain ⟨y, hy, rfl⟩ := List.mem_map.1 hx
    rw [nrm_len]; exact (calm_bd hr hy).1
  have hfew := calms_few hr
  have HL : Hid (lstL n es deg = (calmsL n 0 es).map (nrm deg)) := rfl
  have e0 := HX0.out.cell 0
  have e1 := HX0.out.cell 1
  clear hr hb0
  generalize lstL n es deg = L at *
  generalize calmsL n 0 es = rows at *
  go_enter Tryz.func59, Tryz.ntmps59
  go_wp2_with fail
  rw [← HW0.out]
  refine HCl.out.mono ?_
  rintro e w1 ⟨vl, rfl, hrr, hb1⟩
  obtain ⟨Al, cl, rfl, hrl, hrc, hrows⟩ := hrr.open_
  have HRows := Lib.hid hrows
  have HB1 := Lib.hid hb1
  clear c0 c1 e0 e1 hrr hb1 hrows
  go_wp2_with fail
  go_loopw [6, 7] (fun o ii wr => ∃ (i : Nat) (vo : Value), vo = o ∧ i ≤ rows.length ∧ ii = .int .i64 (i : Int) ∧ Hid (OL w1.heap.size wr o ((rows.take i).map (nrm deg))) ∧ Hid (Below w1.heap.size w1 wr)) (fun _ i _ => rows.length - (intOf i).toNat)
  case atStart => exact ⟨0, _, rfl, Nat.zero_le _, rfl, OL.nil_ _ _, Below.refl _ _⟩
  case round =>
    obtain ⟨i, vo, rfl, hi', rfl, hol, hb⟩ := hrel
    by_cases hlt : i < rows.length
    · obtain ⟨ad, x, A1, c1, hA, hadb, hx, hcl, hxr⟩ := HRows.out i hlt
      subst hA
      obtain ⟨hxl, hxb, hxs⟩ := HRk.out i x hx.out
      have hcl1 : wr.cell? (ad.add i) = some (.slice A1 x.length c1) := (hb.out.cell (by rw [block_of_add]; exact hadb)).trans hcl
      have hcl2 : ∀ o : Obj, (wr.alloc o).cell? (ad.add i) = some (.slice A1 x.length c1) := fun o => ((below_alloc wr o).cell (block_lt_of_cell hcl1)).trans hcl1
      have ho0 := Lib.hid (own_empty wr)
      have hx0 := Lib.hid (RI.below (RI.below hxr hb.out) (below_alloc wr (.cells #[] 3)))
      have HI1 := Lib.hid (ints_one x)
      have hsz := hb.out.size
      have HXb := Lib.hid hxb
      have HXs := Lib.hid hxs
      have hs1 := sum_take_bd (by decide) hxb x.length
      rw [List.take_of_length_le (Nat.le_refl _)] at hs1
      have hx6 : x.length ≤ 6 := by omega
      have hx1 : 1 ≤ x.length := by omega
      have HTk : Hid ((rows.take (i + 1)).map (nrm deg) = (rows.take i).map (nrm deg) ++ [nrm deg x]) := by
        show _ = _; rw [List.take_add_one, hx.out, List.map_append]; rfl
      have hlen : ((rows.take i).map (nrm deg)).length ≤ 16384 := by rw [List.length_map, List.length_take]; omega
      have HOk := Lib.hid hol.out
      clear hcl hxr hxb hxs hol hxl
      generalize (rows.take i).map (nrm deg) = nx at *
      go_wp2_with (first
        | (at_builtin; refine wpList_appendV _ rfl _ _ _ rfl 3 i0 _ 8 Tryz.underlying25 hi hz0 hz1 hz2 rfl wr.heap.size _ [] rfl ho0.out _ _ rfl hx0.out HI1.out (by first | omega | (simp; done) | (simp; omega)) (by first | omega | (simp; done) | (simp; omega)) (by simp) ?_; intro v2 w2 hown2 hg2 hat2; have HB2 := Lib.hid (below_own (below_alloc wr _) (by simp) ho0.out hg2); obtain ⟨g2, cap2, ev, -, -⟩ := OV.shape hown2 (by simp; omega); rw [show (([] : List Value) ++ x.map (Value.int .i64)).length = x.length by simp] at ev; subst ev; have HO2 := Lib.hid (show OI w2 wr.heap.size (.slice (some ⟨g2, 0, none⟩) x.length cap2) x from (by show OV _ _ _ _ _; simpa using hown2)); clear hown2 hg2 hat2))
      have HT2 := Lib.hid (rTot_any _ x w2 HO2.out.rv (by omega) (HXb.out.mono (by decide)))
      obtain ⟨-, hgB, q1, q2, q3⟩ := OI.at' HO2.out (show 0 < x.length from hx1)
      have HS3 := Lib.hid (q3 (deg - x.sum)).1
      rw [HXs.out] at HS3
      have HB3 := Lib.hid (HB2.out.setCell (p := ⟨g2, 0, none⟩) hgB (.int .i64 (deg - x.sum)))
      obtain ⟨us, hul, hov, hrv, hfin⟩ := OL.snoc (OL.below HOk.out HB3.out) (OV.mono HS3.out hsz)
      rw [show (w2.setCell ⟨g2, 0, none⟩ (.int .i64 (deg - x.sum))).heap.size = w2.heap.size by simp] at hrv
      have HOv := Lib.hid hov
      have HRv := Lib.hid hrv
      have HFin := Lib.hid hfin
      have hus : us.length ≤ 16384 := by rw [hul]; exact hlen
      have hsz3 := HB3.out.size
      have HB3s : Hid (Below w1.heap.size w1 (w2.setCell ⟨g2, 0, none⟩ (.int .i64 (deg - x.sum)))) := hb.out.trans (HB3.out.mono hsz)
      have hsz2 := HB2.out.size
      clear q3 hov hrv hfin hul hgB
      generalize hsum : x.sum = y at *
      clear hsum
      go_wp2_with fail
      refine HT2.out.mono ?_
      rintro e w3 ⟨rfl, rfl⟩
      go_wp2_with (first
        | (at_builtin; refine wpList_appendV _ rfl _ _ _ rfl 25 j0 _ 24 Tryz.underlying41 hj hj0 hj1 hj2 rfl w1.heap.size _ _ rfl HOv.out _ _ rfl HRv.out (one_ones rfl) (by first | omega | (simp; done) | (simp; omega)) (by first | omega | (simp; done) | (simp; omega)) (by first | omega | (simp; done) | (simp; omega)) ?_; intro v4 w4 hown4 hg4 hat4; obtain ⟨hf1, hf2⟩ := HFin.out v4 w4 hown4 hg4; have HF1 := Lib.hid hf1; have HF2 := Lib.hid (hf2 w1.heap.size w1 HB3s.out (Nat.le_refl _) HB3s.out.size HB3s.out.size); clear hown4 hg4 hat4 hf1 hf2))
      go_wp2
      go_roundw
      case rel => exact ⟨i + 1, _, rfl, by omega, by go_num, by rw [HTk.out]; exact HF1.out, HF2.out⟩
      case measure => simp [intOf]; omega
    · obtain rfl : i = rows.length := by omega
      have hrr := hol.out.rr
      rw [List.take_of_length_le (Nat.le_refl _), ← HL.out] at hrr
      have HS := Lib.hid (HSo.out wr vo hrr)
      have HBw := Lib.hid (HB0.out.trans ((HB1.out.trans (hb.out.mono HB1.out.size)).mono HB0.out.size))
      clear hrr hol
      go_wp2_with fail
      refine HS.out.mono ?_
      rintro e w5 ⟨v5, rfl, hb5, hr5⟩
      have HR5 := Lib.hid hr5
      have HB5 := Lib.hid (HBw.out.trans (hb5.mono HBw.out.size))
      clear hb5
      clear hr5
      go_wp2
      go_ret
      exact ⟨_, rfl, HB5.out, HR5.out⟩
end Go.Proofs.YtefggpdobjboeaaGreat
