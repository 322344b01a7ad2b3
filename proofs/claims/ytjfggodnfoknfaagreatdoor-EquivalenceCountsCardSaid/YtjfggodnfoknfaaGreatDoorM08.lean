/- Contracts of slices.Max at ints, slices.Min at scripts.
   Contracts of package equivalence: given, each, least.
   Contracts of package equivalence: each and least.
   Contracts of reduced's closures on bools.
   Contract of reduced's unburnt. -/
import Derived.Test.YtjfggodnfoknfaaGreatDoorM07
import Derived.Deep.RegionHeld3
set_option maxRecDepth 100000
set_option maxHeartbeats 16000000
namespace Go.Proofs.YtjfggodnfoknfaaGreatDoor
open Go.RowKit

/-- The greatest of the first k + 1. -/
def maxTo (zs : List Int) : Nat → Int
  | 0 => zs.getD 0 0
  | k + 1 => if maxTo zs k < zs.getD (k + 1) 0 then zs.getD (k + 1) 0 else maxTo zs k
def minTo (zs : List Int) : Nat → Int
  | 0 => zs.getD 0 0
  | k + 1 => if zs.getD (k + 1) 0 < minTo zs k then zs.getD (k + 1) 0 else minTo zs k
theorem maxTo_ge (zs : List Int) (k : Nat) : ∀ j, j ≤ k → zs.getD j 0 ≤ maxTo zs k := by
  induction k with
  | zero => intro j hj; rw [show j = 0 by omega]; exact Int.le_refl _
  | succ k ih =>
    intro j hj
    rcases Nat.lt_or_ge j (k + 1) with c | c
    · have := ih j (by omega); simp only [maxTo]; split <;> omega
    · obtain rfl : j = k + 1 := by omega
      simp only [maxTo]; split <;> omega
theorem maxTo_is (zs : List Int) (k : Nat) : ∃ j, j ≤ k ∧ maxTo zs k = zs.getD j 0 := by
  induction k with
  | zero => exact ⟨0, Nat.le_refl _, rfl⟩
  | succ k ih =>
    simp only [maxTo]; split
    · exact ⟨k + 1, Nat.le_refl _, rfl⟩
    · obtain ⟨j, hj, he⟩ := ih; exact ⟨j, by omega, he⟩
theorem minTo_le (zs : List Int) (k : Nat) : ∀ j, j ≤ k → minTo zs k ≤ zs.getD j 0 := by
  induction k with
  | zero => intro j hj; rw [show j = 0 by omega]; exact Int.le_refl _
  | succ k ih =>
    intro j hj
    rcases Nat.lt_or_ge j (k + 1) with c | c
    · have := ih j (by omega); simp only [minTo]; split <;> omega
    · obtain rfl : j = k + 1 := by omega
      simp only [minTo]; split <;> omega
theorem minTo_is (zs : List Int) (k : Nat) : ∃ j, j ≤ k ∧ minTo zs k = zs.getD j 0 := by
  induction k with
  | zero => exact ⟨0, Nat.le_refl _, rfl⟩
  | succ k ih =>
    simp only [minTo]; split
    · exact ⟨k + 1, Nat.le_refl _, rfl⟩
    · obtain ⟨j, hj, he⟩ := ih; exact ⟨j, by omega, he⟩
theorem run_max2z {P : Program} (ts : Array TypeId) (t : TypeId) (k : IntKind) (x y : Int) (w : World) : (Builtin.max_ ts t #[.int k x, .int k y]).run P w = .ok (.int k (if x < y then y else x)) w := by
  simp [Builtin.max_, Builtin.max2]
theorem run_min2z {P : Program} (ts : Array TypeId) (t : TypeId) (k : IntKind) (x y : Int) (w : World) : (Builtin.min_ ts t #[.int k x, .int k y]).run P w = .ok (.int k (if y < x then y else x)) w := by
  simp [Builtin.min_, Builtin.min2]
theorem Max_any (va : Value) (xs : List Int) (w : World) (ha : RI w va xs) (hn : 0 < xs.length) :
    Calls Tryz.prog 99 #[va] w fun e w' => e = .returned (.int .i64 (maxTo xs (xs.length - 1))) ∧ w = w' := by
  obtain ⟨A, c, rfl, hlc, hc, hcell⟩ := ha.open_
  obtain ⟨ad, z, rfl, _, hz, hcl⟩ := hcell 0 hn
  have HA := Lib.hid hcell
  have hz0 : Hid (z = maxTo xs 0) := by show _ = _; simp [maxTo, List.getD_eq_getElem?_getD, hz.out]
  have hcl0 : w.cell? ad = some (.int .i64 z) := by rw [← hcl]; congr 1
  clear hcell ha hz
  go_enter Tryz.func99, Tryz.ntmps99
  go_wp2
  go_loopw [3, 4] (fun m i wr => ∃ k : Nat, 1 ≤ k ∧ k ≤ xs.length ∧ m = .int .i64 (maxTo xs (k - 1)) ∧ i = .int .i64 (k : Int) ∧ wr = w) (fun _ i _ => xs.length - (intOf i).toNat)
  case atStart => exact ⟨1, Nat.le_refl _, hn, by rw [hz0.out], rfl, rfl⟩
  case round =>
    obtain ⟨k, hk1, hk, rfl, rfl, rfl⟩ := hrel
    by_cases hlt : k < xs.length
    · obtain ⟨ad', z', hA, _, hz', hcl'⟩ := HA.out k hlt
      obtain rfl := Option.some.inj hA
      obtain ⟨mm, hmm⟩ : ∃ mm, mm = maxTo xs (k - 1) := ⟨_, rfl⟩
      have hmx := fun W => run_max2z (P := Tryz.prog) #[3, 3] 3 .i64 mm z' W
      have HM : Hid ((if mm < z' then z' else mm) = maxTo xs k) := by
        obtain ⟨j, rfl⟩ : ∃ j, k = j + 1 := ⟨k - 1, by omega⟩
        show _ = _
        rw [hmm]
        simp [maxTo, List.getD_eq_getElem?_getD, hz'.out]
      rw [HM.out] at hmx
      rw [← hmm]
      clear hz' hA hmm
      go_wp2
      go_roundw
      case rel => exact ⟨k + 1, by omega, by omega, by simp, by go_num, by trivial⟩
      case measure => simp [intOf]; omega
    · have hke : Hid (k = xs.length) := by show _ = _; omega
      go_wp2
      go_ret
      exact ⟨by rw [← hke.out]; rfl, rfl⟩
theorem MinS_any (va : Value) (xs : List Int) (w : World) (ha : RI w va xs) (hn : 0 < xs.length) :
    Calls Tryz.prog 63 #[va] w fun e w' => e = .returned (.int .i64 (minTo xs (xs.length - 1))) ∧ w = w' := by
  obtain ⟨A, c, rfl, hlc, hc, hcell⟩ := ha.open_
  obtain ⟨ad, z, rfl, _, hz, hcl⟩ := hcell 0 hn
  have HA := Lib.hid hcell
  have hz0 : Hid (z = minTo xs 0) := by show _ = _; simp [minTo, List.getD_eq_getElem?_getD, hz.out]
  have hcl0 : w.cell? ad = some (.int .i64 z) := by rw [← hcl]; congr 1
  clear hcell ha hz
  go_enter Tryz.func63, Tryz.ntmps63
  go_wp2
  go_loopw [3, 4] (fun m i wr => ∃ k : Nat, 1 ≤ k ∧ k ≤ xs.length ∧ m = .int .i64 (minTo xs (k - 1)) ∧ i = .int .i64 (k : Int) ∧ wr = w) (fun _ i _ => xs.length - (intOf i).toNat)
  case atStart => exact ⟨1, Nat.le_refl _, hn, by rw [hz0.out], rfl, rfl⟩
  case round =>
    obtain ⟨k, hk1, hk, rfl, rfl, rfl⟩ := hrel
    by_cases hlt : k < xs.length
    · obtain ⟨ad', z', hA, _, hz', hcl'⟩ := HA.out k hlt
      obtain rfl := Option.some.inj hA
      obtain ⟨mm, hmm⟩ : ∃ mm, mm = minTo xs (k - 1) := ⟨_, rfl⟩
      have hmx := fun W => run_min2z (P := Tryz.prog) #[3, 3] 3 .i64 mm z' W
      have HM : Hid ((if z' < mm then z' else mm) = minTo xs k) := by
        obtain ⟨j, rfl⟩ : ∃ j, k = j + 1 := ⟨k - 1, by omega⟩
        show _ = _
        rw [hmm]
        simp [minTo, List.getD_eq_getElem?_getD, hz'.out]
      rw [HM.out] at hmx
      rw [← hmm]
      clear hz' hA hmm
      go_wp2
      go_roundw
      case rel => exact ⟨k + 1, by omega, by omega, by simp, by go_num, by trivial⟩
      case measure => simp [intOf]; omega
    · have hke : Hid (k = xs.length) := by show _ = _; omega
      go_wp2
      go_ret
      exact ⟨by rw [← hke.out]; rfl, rfl⟩
end Go.Proofs.YtjfggodnfoknfaaGreatDoor

namespace Go.Proofs.YtjfggodnfoknfaaGreatDoor
open Go.RowKit Go.Shelf

/-- The first error of some divisors. -/
def firstE (n : Int) : List (List Int) → Int
  | [] => 0
  | zs :: r => if checkE zs n ≠ 0 then checkE zs n else firstE n r
def eGiven (n : Int) (es : List Tri) (l : List (List Int)) : Int := if gcheckE n es ≠ 0 then gcheckE n es else if connB n es = false then 13 else firstE n l
theorem eGiven_any (g lv : Value) (n : Int) (es : List Tri) (l : List (List Int)) (w : World) (hg : GV w g n es) (hl : RR w lv l) :
    Calls Tryz.prog 23 #[g, lv] w fun e w' => e = .returned (.int .i64 (eGiven n es l)) ∧ Below w.heap.size w w' := by
  obtain ⟨A, c, rfl, hlc, hc, -⟩ := hg.open_
  obtain ⟨A2, c2, rfl, -, hlb, -⟩ := hl.open_
  have HB0 := Lib.hid (below_alloc w (.cells #[.int .i64 n, .slice A es.length c] 24))
  have HG := Lib.hid (hg.below HB0.out)
  have HL := Lib.hid (hl.below HB0.out)
  have HBL := Lib.hid (BL.new' w #[.int .i64 n, .slice A es.length c] 24)
  have HC := Lib.hid (Connected_any _ n es _ HG.out)
  clear hg hl
  by_cases h0 : gcheckE n es = 0
  · have HE : Hid (connL n es = connB n es) := by show _ = _; simp [connL, h0]
    rw [h0, HE.out] at HC
    have H0 := Lib.hid h0
    clear h0
    cases hcb : connB n es
    · rw [hcb] at HC
      go_enter Tryz.func23, Tryz.ntmps23
      go_wp2_with fail
      refine HC.out.mono ?_
      rintro e w1 ⟨rfl, hb⟩
      have HB := Lib.hid (HB0.out.trans (hb.mono (by simp)))
      clear hb
      go_wp2
      go_ret
      exact ⟨ret_i (by simp [eGiven, H0.out, hcb]), HB.out⟩
    · rw [hcb] at HC
      go_enter Tryz.func23, Tryz.ntmps23
      go_wp2_with fail
      refine HC.out.mono ?_
      rintro e w1 ⟨rfl, hb⟩
      have c0 : w1.cell? ⟨w.heap.size, 0, none⟩ = some (.int .i64 n) := (HBL.out.bel hb).cell 0
      have HL1 := Lib.hid (HL.out.below hb)
      have HB := Lib.hid (HB0.out.trans (hb.mono (by simp)))
      clear hb
      go_wp2
      go_loop [22] (fun i => ∃ k : Nat, k ≤ l.length ∧ i = .int .i64 (k : Int) ∧ Hid (firstE n (l.drop k) = firstE n l)) (fun i => l.length - (intOf i).toNat)
      case atStart => exact ⟨0, Nat.zero_le _, rfl, rfl⟩
      case round =>
        obtain ⟨k, hk, rfl, hr⟩ := hrel
        obtain ⟨A3, c3, he3, -, -, hcell⟩ := HL1.out.open_
        simp only [Value.slice.injEq, true_and] at he3
        obtain ⟨rfl, rfl⟩ := he3
        by_cases hlt : k < l.length
        · obtain ⟨ad, zs, A1, c1, rfl, hbl, hz, hcl, hri⟩ := hcell k hlt
          have HCk := Lib.hid (check_any _ zs n w1 hri)
          have HD := Lib.hid (drop_at hz)
          clear hcell hri
          by_cases hzc : checkE zs n = 0
          · rw [hzc] at HCk
            have HZ := Lib.hid hzc
            clear hzc
            go_wp2_with fail
            refine HCk.out.mono ?_
            rintro e w2 ⟨rfl, rfl⟩
            go_wp2
            go_round
            case rel => exact ⟨k + 1, by omega, by go_num, by have := hr.out; rw [HD.out] at this; simpa [Hid, firstE, HZ.out] using this⟩
            case measure => simp [intOf]; omega
          · have HZ := Lib.hid hzc
            have hne : (checkE zs n != 0) = true := by simpa using hzc
            obtain ⟨ce, hce⟩ : ∃ ce, ce = checkE zs n := ⟨_, rfl⟩
            rw [← hce] at HCk HZ hne
            have HCE := Lib.hid hce
            have hcn : ¬ ce = 0 := HZ.out
            clear hzc hce
            go_wp2_with fail
            refine HCk.out.mono ?_
            rintro e w2 ⟨rfl, rfl⟩
            go_wp2
            go_ret
            have h := hr.out
            rw [HD.out] at h
            simp only [firstE] at h
            rw [if_pos (by rw [← HCE.out]; exact HZ.out), ← HCE.out] at h
            exact ⟨ret_i (by simp [eGiven, H0.out, hcb, ← h]), HB.out⟩
        · go_wp2
          go_ret
          have h := hr.out
          rw [List.drop_of_length_le (by omega)] at h
          exact ⟨ret_i (by simp [eGiven, H0.out, hcb, ← h, firstE]), HB.out⟩
  · have hne : (gcheckE n es != 0) = true := by simpa using h0
    have H0 := Lib.hid h0
    obtain ⟨ge, hge⟩ : ∃ ge, ge = gcheckE n es := ⟨_, rfl⟩
    rw [← hge] at HC hne h0
    have HGE := Lib.hid hge
    generalize connL n es = cl at *
    clear hge
    go_enter Tryz.func23, Tryz.ntmps23
    go_wp2_with fail
    refine HC.out.mono ?_
    rintro e w1 ⟨rfl, hb⟩
    have HB := Lib.hid (HB0.out.trans (hb.mono (by simp)))
    clear hb
    go_wp2
    go_ret
    exact ⟨ret_i (by simp [eGiven, H0.out, HGE.out]), HB.out⟩
/-- A function value that computes F on pairs of ints in D. -/
def CloD (P : Program) (w : World) (fv : Value) (D : Int → Int → Prop) (F : Int → Int → Int) : Prop :=
  ∃ fn caps, fv = .func (.func fn) #[] caps ∧ (∀ args W, (callFunc fn args).run P W = .ok (.enter fn args) W) ∧ ∀ W, Below w.heap.size w W → ∀ x y, D x y → Calls P fn (#[.int .i64 x, .int .i64 y] ++ caps) W fun e w' => e = .returned (.int .i64 (F x y)) ∧ W = w'
def Mid (x y : Int) : Prop := -10000000 ≤ x ∧ x ≤ 10000000 ∧ -10000000 ≤ y ∧ y ≤ 10000000
theorem subD_clo (w : World) : CloD Tryz.prog w (.func (.func 35) #[] #[]) Mid (fun x y => x - y) :=
  ⟨_, _, rfl, enters_of Tryz.func35 (by kernel_rfl) rfl, fun W hW x y ⟨h1, h2, h3, h4⟩ => by
    have hw : IntKind.i64.wrap (x - y) = x - y := IntWalk.i64_in _ (by omega)
    clear h1 h2 h3 h4
    go_enter Tryz.func35, Tryz.ntmps35
    go_wp2
    go_ret
    exact ⟨rfl, rfl⟩⟩
theorem lessD_clo (w : World) (hb : Nat) (m : Int) (h : BL w hb 3 [.int .i64 m]) (hm : -10000000 ≤ m ∧ m ≤ 10000000) : CloD Tryz.prog w (.func (.func 64) #[] #[.pointer (some ⟨hb, 0, none⟩)]) Mid (fun x _ => x - m) :=
  ⟨_, _, rfl, enters_of Tryz.func64 (by kernel_rfl) rfl, fun W hW x y ⟨h1, h2, h3, h4⟩ => by
    have hw : IntKind.i64.wrap (x - m) = x - m := IntWalk.i64_in _ (by omega)
    have c0 := (h.bel hW).cell 0
    clear h1 h2 h3 h4 h hm
    go_enter Tryz.func64, Tryz.ntmps64
    go_wp2
    go_ret
    exact ⟨rfl, rfl⟩⟩
end Go.Proofs.YtjfggodnfoknfaaGreatDoor

namespace Go.Proofs.YtjfggodnfoknfaaGreatDoor
open Go.RowKit Go.Shelf

theorem eachS_any (va vb fv : Value) (xs ys : List Int) (D : Int → Int → Prop) (F : Int → Int → Int) (w : World) (ha : RI w va xs) (hb : RI w vb ys) (hl : xs.length = ys.length) (h100 : xs.length ≤ 100)
    (hD : ∀ k, k < xs.length → D (xs.getD k 0) (ys.getD k 0)) (hf : CloD Tryz.prog w fv D F) :
    Calls Tryz.prog 34 #[va, vb, fv] w fun e w' => ∃ v, e = .returned v ∧ OI w' w.heap.size v (List.zipWith F xs ys) ∧ Below w.heap.size w w' := by
  obtain ⟨A, c, rfl, hlc, hc, hcell⟩ := ha.open_
  obtain ⟨A', c', rfl, hlc', hc', hcell'⟩ := hb.open_
  obtain ⟨fn, caps, rfl, hen, hcall⟩ := hf
  have hmk := run_make_row' (P := Tryz.prog) 42 3 (.int .i64 0) 8 Tryz.underlying42 int_info rfl .i64 .i64 xs.length (by omega) (by omega)
  have HA := Lib.hid hcell
  have HB := Lib.hid hcell'
  have HF := Lib.hid hcall
  have HDD := Lib.hid hD
  have hown := own_zeros w xs.length (by omega)
  have hb1 : Below w.heap.size w (w.alloc (.cells (madeCells #[Value.int .i64 0] xs.length) 3)) := below_alloc w _
  have HO0 := Lib.hid hown
  have HB1 := Lib.hid hb1
  have HL := Lib.hid hl
  clear hcell hcell' hcall ha hb hD hown hb1 hl
  go_enter Tryz.func34, Tryz.ntmps34
  go_wp2_with fail
  clear hmk
  go_loopw [14] (fun i wr => ∃ (k : Nat) (os : List Int), k ≤ xs.length ∧ i = .int .i64 (k : Int) ∧ Hid (os.length = xs.length) ∧ Hid (os.take k = (List.zipWith F xs ys).take k) ∧
    Hid (OI wr w.heap.size (.slice (some ⟨w.heap.size, 0, none⟩) xs.length xs.length) os) ∧ Hid (Below w.heap.size w wr)) (fun i _ => xs.length - (intOf i).toNat)
  case atStart => exact ⟨0, List.replicate xs.length 0, Nat.zero_le _, rfl, by simp [Hid], by simp [Hid], HO0.out, HB1.out⟩
  case round =>
    obtain ⟨k, os, hk, rfl, ho1, ho2, hown, hbel⟩ := hrel
    by_cases hlt : k < xs.length
    · obtain ⟨ad, z, rfl, hadb, hz, hcl⟩ := HA.out k hlt
      obtain ⟨ad', z', rfl, hadb', hz', hcl'⟩ := HB.out k (by have := HL.out; omega)
      have hc1 : wr.cell? (ad.add k) = some (.int .i64 z) := (hbel.out.cell (by rw [block_of_add]; exact hadb)).trans hcl
      have hc2 : wr.cell? (ad'.add k) = some (.int .i64 z') := (hbel.out.cell (by rw [block_of_add]; exact hadb')).trans hcl'
      have hlt' : k < ys.length := by have := HL.out; omega
      have hDz : D z z' := by
        have := HDD.out k hlt
        rwa [List.getD_eq_getElem?_getD, List.getD_eq_getElem?_getD, hz.out, hz'.out] at this
      obtain ⟨-, -, e1, f1, est⟩ := OI.at' hown.out (k := k) (by have := ho1.out; omega)
      have hset := (est (F z z')).1
      have HS := Lib.hid hset
      have HDz := Lib.hid hDz
      have hz1 : (List.zipWith F xs ys)[k]? = some (F z z') := by rw [List.getElem?_zipWith, hz.out, hz'.out]
      have HZ := Lib.hid hz1
      clear hset est hDz hz1 hcl hcl'
      generalize os.getD k 0 = ok at *
      go_wp2_with fail
      refine wp_region_still_tail 13 (by kernel_rfl) (by kernel_rfl) ?_
      change wpStill _ _ wr.drew _ _ _
      simp only [List.take_succ_cons, List.take_zero, List.drop_succ_cons, List.drop_zero]
      repeat still_step
      still_call ((HF.out wr.drew hbel.out.drew z z' HDz.out).mono fun _ _ h => ⟨h.1, h.2.symm⟩)
      repeat still_step
      refine wpStill_nil ?_
      change wpList _ _ _ _ _ wr.drew
      go_wp2
      go_roundw
      case rel => exact ⟨k + 1, os.set k (F z z'), by omega, by go_num, by simpa [Hid] using ho1.out, by
        show List.take (k + 1) (os.set k (F z z')) = _
        rw [List.take_add_one, List.take_add_one, List.take_set_of_le (Nat.le_refl _), ho2.out, HZ.out, List.getElem?_set_self (by have := ho1.out; omega)], HS.out.below (Below.refl _ _).drew, (hbel.out.setCell (p := ⟨w.heap.size, k, none⟩) (by simp) _).drew⟩
      case measure => simp [intOf]; omega
    · obtain rfl : k = xs.length := by omega
      go_wp2
      go_ret
      have e : os = List.zipWith F xs ys := by
        have h := ho2.out
        rwa [List.take_of_length_le (by have := ho1.out; omega), List.take_of_length_le (by have := HL.out; simp; omega)] at h
      subst e
      exact ⟨_, rfl, hown.out, hbel.out⟩
/-- The least script with the same effect. -/
def leastL (s : List Int) : List Int := if s = [] then [] else s.map fun x => x - minTo s (s.length - 1)
theorem least_any (v : Value) (s : List Int) (w : World) (hv : RI w v s) (hl : s.length ≤ 100) (hb : Bd 10000000 s) :
    Calls Tryz.prog 33 #[v] w fun e w' => ∃ v', e = .returned v' ∧ OI w' w.heap.size v' (leastL s) ∧ Below w.heap.size w w' := by
  obtain ⟨A, c, rfl, hlc, hc, -⟩ := hv.open_
  by_cases h0 : s.length = 0
  · have hs : s = [] := List.eq_nil_of_length_eq_zero h0
    subst hs
    clear hv hb
    go_enter Tryz.func33, Tryz.ntmps33
    go_wp2
    go_ret
    exact ⟨_, rfl, OI.nil_ _ _, Below.refl _ _⟩
  · have HMi := Lib.hid (MinS_any _ s w hv (by omega))
    obtain ⟨m, hm⟩ : ∃ m, m = minTo s (s.length - 1) := ⟨_, rfl⟩
    have hmb : -10000000 ≤ m ∧ m ≤ 10000000 := by
      obtain ⟨j, -, he⟩ := minTo_is s (s.length - 1)
      rw [hm, he]; exact hb j
    rw [← hm] at HMi
    have hbl := BL.new' w #[.int .i64 m] 3
    have HE := Lib.hid (eachS_any _ _ _ s s Mid _ (w.alloc (.cells #[.int .i64 m] 3)) (hv.below (below_alloc w _)) (hv.below (below_alloc w _)) rfl hl (fun k _ => ⟨(hb k).1, (hb k).2, (hb k).1, (hb k).2⟩) (lessD_clo _ w.heap.size m hbl hmb))
    have HL : Hid (List.zipWith (fun x _ => x - m) s s = leastL s) := by
      show _ = _
      have hne : s ≠ [] := by intro e; subst e; simp at h0
      have key : ∀ l : List Int, List.zipWith (fun x _ => x - m) l l = l.map fun x => x - m := fun l => by
        induction l with
        | nil => rfl
        | cons x r ih => simp only [List.zipWith_cons_cons, List.map_cons, ih]
      unfold leastL
      rw [if_neg hne, ← hm, key]
    have hne : (s.length == 0) = false := by simpa using h0
    clear hv hb hbl hm
    go_enter Tryz.func33, Tryz.ntmps33
    go_wp2_with fail
    refine HMi.out.mono ?_
    rintro e w1 ⟨rfl, rfl⟩
    go_wp2_with fail
    refine HE.out.mono ?_
    rintro e w2 ⟨v', rfl, ho, hb2⟩
    have HO := Lib.hid ho
    have HB2 := Lib.hid hb2
    clear ho hb2
    go_wp2
    go_ret
    refine ⟨_, rfl, ?_, (below_alloc w _).trans (HB2.out.mono (by simp))⟩
    rw [← HL.out]
    exact OV.mono HO.out (by simp)
end Go.Proofs.YtjfggodnfoknfaaGreatDoor

namespace Go.Proofs.YtjfggodnfoknfaaGreatDoor
open Go.RowKit Go.Shelf

theorem bools_at {w : World} {B g n cap : Nat} {bs : List Bool} (h : OV w B 4 (.slice (some ⟨g, 0, none⟩) n cap) (bs.map Value.bool)) (hl : bs.length = n) {k : Nat} (hk : k < n) :
    w.cell? ⟨g, k, none⟩ = some (.bool (bs.getD k false)) ∧ w.frozen? ⟨g, k, none⟩ = false ∧ ∀ x : Bool, OV (w.setCell ⟨g, k, none⟩ (.bool x)) B 4 (.slice (some ⟨g, 0, none⟩) n cap) ((bs.set k x).map Value.bool) ∧ w.grownBy (w.setCell ⟨g, k, none⟩ (.bool x)) (some g) := by
  have hb : (bs.map Value.bool)[k]? = some (.bool (bs.getD k false)) := by
    rw [List.getElem?_map, List.getD_eq_getElem?_getD, List.getElem?_eq_getElem (by omega)]; rfl
  obtain ⟨g', cap', hv, -, -, h1, h2, h3⟩ := h.at_ hb
  simp only [Value.slice.injEq, Option.some.injEq, Addr.mk.injEq, and_true] at hv
  obtain ⟨rfl, hn, rfl⟩ := hv
  refine ⟨h1, h2, fun x => ?_⟩
  have := h3 (.bool x)
  rw [← hn, ← List.map_set] at this
  exact this
theorem isB_clo (w : World) (hb B g n cap : Nat) (bs : List Bool) (h1 : BL w hb 139 [.slice (some ⟨g, 0, none⟩) n cap]) (h2 : OV w B 4 (.slice (some ⟨g, 0, none⟩) n cap) (bs.map Value.bool)) (hl : bs.length = n) :
    CloB Tryz.prog w (.func (.func 140) #[] #[.pointer (some ⟨hb, 0, none⟩)]) (fun u => 0 ≤ u ∧ u < n) (fun u => bs.getD u.toNat false) :=
  ⟨_, _, rfl, enters_of Tryz.func140 (by kernel_rfl) rfl, fun W hW x hx => by
    obtain ⟨k, rfl⟩ := Int.eq_ofNat_of_zero_le hx.1
    have hk : k < n := by omega
    have c0 := (h1.bel hW).cell 0
    have c1 := (bools_at (h2.below hW) hl hk).1
    obtain ⟨y, hy⟩ : ∃ y, y = bs.getD k false := ⟨_, rfl⟩
    rw [← hy] at c1
    have HY := Lib.hid hy
    clear hy
    show Calls _ _ #[.int .i64 (k : Int), .pointer (some ⟨hb, 0, none⟩)] _ _
    go_enter Tryz.func140, Tryz.ntmps140
    go_wp2
    go_ret
    exact ⟨ret_b (by rw [HY.out]; simp only [Int.toNat_natCast]), rfl⟩⟩
theorem near_clo (w : World) (hb B g n cap : Nat) (bs : List Bool) (h1 : BL w hb 139 [.slice (some ⟨g, 0, none⟩) n cap]) (h2 : OV w B 4 (.slice (some ⟨g, 0, none⟩) n cap) (bs.map Value.bool)) (hl : bs.length = n) :
    CloB Tryz.prog w (.func (.func 101) #[] #[.pointer (some ⟨hb, 0, none⟩)]) (fun u => 0 ≤ u ∧ u < n) (fun u => bs.getD u.toNat false) :=
  ⟨_, _, rfl, enters_of Tryz.func101 (by kernel_rfl) rfl, fun W hW x hx => by
    obtain ⟨k, rfl⟩ := Int.eq_ofNat_of_zero_le hx.1
    have hk : k < n := by omega
    have c0 := (h1.bel hW).cell 0
    have c1 := (bools_at (h2.below hW) hl hk).1
    obtain ⟨y, hy⟩ : ∃ y, y = bs.getD k false := ⟨_, rfl⟩
    rw [← hy] at c1
    have HY := Lib.hid hy
    clear hy
    show Calls _ _ #[.int .i64 (k : Int), .pointer (some ⟨hb, 0, none⟩)] _ _
    go_enter Tryz.func101, Tryz.ntmps101
    go_wp2
    go_ret
    exact ⟨ret_b (by rw [HY.out]; simp only [Int.toNat_natCast]), rfl⟩⟩
theorem left_clo (w : World) (hb B g n cap : Nat) (bs : List Bool) (h1 : BL w hb 139 [.slice (some ⟨g, 0, none⟩) n cap]) (h2 : OV w B 4 (.slice (some ⟨g, 0, none⟩) n cap) (bs.map Value.bool)) (hl : bs.length = n) :
    CloB Tryz.prog w (.func (.func 103) #[] #[.pointer (some ⟨hb, 0, none⟩)]) (fun u => 0 ≤ u ∧ u < n) (fun u => !bs.getD u.toNat false) :=
  ⟨_, _, rfl, enters_of Tryz.func103 (by kernel_rfl) rfl, fun W hW x hx => by
    obtain ⟨k, rfl⟩ := Int.eq_ofNat_of_zero_le hx.1
    have hk : k < n := by omega
    have c0 := (h1.bel hW).cell 0
    have c1 := (bools_at (h2.below hW) hl hk).1
    obtain ⟨y, hy⟩ : ∃ y, y = bs.getD k false := ⟨_, rfl⟩
    rw [← hy] at c1
    have HY := Lib.hid hy
    clear hy
    show Calls _ _ #[.int .i64 (k : Int), .pointer (some ⟨hb, 0, none⟩)] _ _
    go_enter Tryz.func103, Tryz.ntmps103
    go_wp2
    go_ret
    exact ⟨ret_b (by rw [HY.out]; simp only [Int.toNat_natCast]), rfl⟩⟩
end Go.Proofs.YtjfggodnfoknfaaGreatDoor

namespace Go.Proofs.YtjfggodnfoknfaaGreatDoor
open Go.RowKit Go.Shelf

theorem bool_info : (Tryz.prog.info? 4).map (fun i => (i.zero, i.size, i.bytes)) = some (some (.bool false), 1, 1) := by kernel_rfl
theorem own_falses (W : World) (n : Nat) (hn : n ≤ 1000) : OV (W.alloc (.cells (madeCells #[Value.bool false] n) 4)) W.heap.size 4 (.slice (some ⟨W.heap.size, 0, none⟩) n n) ((List.replicate n false).map Value.bool) := by
  have hs : (madeCells #[Value.bool false] n).toList = List.replicate n (.bool false) := by simpa using toList_madeCells_one (.bool false) n
  refine ⟨⟨by simp, .inr ⟨W.heap.size, n, madeCells #[Value.bool false] n, by simp, Nat.le_refl _, heap_alloc_new W _, by simp, by unfold maxLen; omega, ?_, ?_⟩⟩, by simp; omega⟩
  · have := congrArg List.length hs
    simpa using this
  · rw [hs]; simp
theorem grownBy_cell (w : World) (p : Addr) (v : Value) : w.grownBy (w.setCell p v) (some p.block) := ⟨rfl, rfl, rfl, by simp, fun k _ hk => heap_setCell_other w p k v (by simpa using hk)⟩
def fnD (d : List Int) (v : Nat) : Int := d.getD v 0
def fnB (b : List Bool) (v : Nat) : Bool := b.getD v false
/-- What is burnt can't be in a part that can fire. -/
def Burn (n q : Nat) (es : List Tri) (d : List Int) (bt : List Bool) : Prop :=
  bt.length = n ∧ fnB bt q = true ∧ ∀ A : Nat → Bool, A q = false → Legal n (wgt es) (fnD d) A → ∀ v, v < n → fnB bt v = true → A v = false
def nb (n : Nat) (bt : List Bool) : Nat := countN n fun v => !fnB bt v
theorem fnB_set {bt : List Bool} {k : Nat} (hk : k < bt.length) (x : Bool) (v : Nat) : fnB (bt.set k x) v = if k = v then x else fnB bt v := by
  unfold fnB
  rw [List.getD_eq_getElem?_getD, List.getElem?_set]
  by_cases e : k = v
  · subst e; rw [if_pos rfl, if_pos rfl, if_pos hk]; rfl
  · rw [if_neg e, if_neg e, List.getD_eq_getElem?_getD]
theorem Burn.step {n q : Nat} {es : List Tri} {d : List Int} {bt : List Bool} (h : Burn n q es d bt) (hE : Edges n es) {k : Nat} (hk : k < n) (hlt : fnD d k < joinE es (fnB bt) k) : Burn n q es d (bt.set k true) := by
  obtain ⟨h1, h2, h3⟩ := h
  refine ⟨by simpa using h1, ?_, fun A hA hl v hv hb => ?_⟩
  · rw [fnB_set (by omega)]; split <;> simp [h2]
  · rw [fnB_set (by omega)] at hb
    by_cases e : k = v
    · subst e
      rw [← join_edges hE.ends] at hlt
      exact burn_step (wgt_nonneg hE.pos) hl (fun u hu hbu => h3 A hA hl u hu hbu) hv hlt
    · rw [if_neg e] at hb
      exact h3 A hA hl v hv hb
theorem nb_set {n : Nat} {bt : List Bool} {k : Nat} (hl : bt.length = n) (hk : k < n) (hf : fnB bt k = false) : nb n (bt.set k true) < nb n bt := by
  refine countN_lt (fun v hv => ?_) hk ?_ ?_
  · rw [fnB_set (by omega)]; split <;> simp
  · rw [fnB_set (by omega), if_pos rfl]; rfl
  · rw [hf]; rfl
def leftL (n k : Nat) (bt : List Bool) : List Bool := (bt.take k).map (fun x => !x) ++ List.replicate (n - k) false
theorem leftL_set {n k : Nat} {bt : List Bool} (hl : bt.length = n) (hk : k < n) : (leftL n k bt).set k (!fnB bt k) = leftL n (k + 1) bt := by
  unfold leftL fnB
  rw [List.take_succ_eq_append_getElem (by omega), List.getD_eq_getElem?_getD, List.getElem?_eq_getElem (by omega)]
  rw [List.set_append_right _ _ (by simp; omega)]
  simp only [List.length_map, List.length_take, Nat.min_eq_left (show k ≤ bt.length by omega), Nat.sub_self, Option.getD_some, List.map_append, List.map_cons, List.map_nil, List.append_assoc]
  congr 1
  rw [show n - k = (n - (k + 1)) + 1 by omega, List.replicate_succ]
  rfl
theorem leftL_len {n k : Nat} {bt : List Bool} (hl : bt.length = n) (hk : k ≤ n) : (leftL n k bt).length = n := by simp [leftL]; omega
theorem leftL_all {n : Nat} {bt : List Bool} (hl : bt.length = n) : leftL n n bt = bt.map fun x => !x := by
  unfold leftL; rw [List.take_of_length_le (by omega)]; simp
theorem someL_step {k : Nat} {bt : List Bool} (hk : k < bt.length) : ((bt.take (k + 1)).map (fun x => !x)).any id = (((bt.take k).map (fun x => !x)).any id || !fnB bt k) := by
  unfold fnB
  rw [List.take_succ_eq_append_getElem hk, List.getD_eq_getElem?_getD, List.getElem?_eq_getElem hk, List.map_append, List.any_append]
  congr 1
  simp
/-- No unburnt vertex below k can burn. -/
def Calm (k : Nat) (es : List Tri) (d : List Int) (bt : List Bool) : Prop := ∀ v, v < k → fnB bt v = false → joinE es (fnB bt) v ≤ fnD d v
/-- What holds of the burnt vertices at block h, behind a box at block h + 1. -/
def UbR (w : World) (h n q : Nat) (es : List Tri) (d : List Int) (bt : List Bool) (wr : World) : Prop :=
  BL wr (h + 1) 139 [.slice (some ⟨h, 0, none⟩) n n] ∧ OV wr h 4 (.slice (some ⟨h, 0, none⟩) n n) (bt.map Value.bool) ∧ Below w.heap.size w wr ∧ Burn n q es d bt
theorem UbR.below {w : World} {h n q : Nat} {es : List Tri} {d : List Int} {bt : List Bool} {wr W : World} (hu : UbR w h n q es d bt wr) (hb : Below wr.heap.size wr W) : UbR w h n q es d bt W :=
  ⟨hu.1.bel hb, hu.2.1.below hb, hu.2.2.1.trans (hb.mono hu.2.2.1.size), hu.2.2.2⟩
theorem unburnt_any (b eb n q gd capd B : Nat) (ve vs : Value) (es : List Tri) (d : List Int) (w : World) (hE : Edges n es) (hn : n ≤ 12) (hq : q < n)
    (hST : ST w b n ve q (.slice (some ⟨gd, 0, none⟩) n capd) vs 0) (hEB : EB w ve es eb) (heb : eb < w.heap.size) (hd : OI w B (.slice (some ⟨gd, 0, none⟩) n capd) d) (hdl : d.length = n) :
    Calls Tryz.prog 102 #[.pointer (some ⟨b, 0, none⟩)] w fun e w' => ∃ g cap bt, e = .returned (.tuple #[.slice (some ⟨g, 0, none⟩) n cap, .bool ((bt.map (fun x => !x)).any id)]) ∧ OV w' w.heap.size 4 (.slice (some ⟨g, 0, none⟩) n cap) ((bt.map fun x => !x).map Value.bool) ∧ Burn n q es d bt ∧ Calm n es d bt ∧ Below w.heap.size w w' := by
  have hmk := run_make_row' (P := Tryz.prog) 139 4 (.bool false) 1 Tryz.underlying139 bool_info rfl .i64 .i64 n (by omega) (by omega)
  have hbz : b < w.heap.size := BL.lt hST
  have n0 : w.cell? ⟨b, 0, none⟩ = some (.int .i64 (n : Int)) := BL.cell hST 0
  have HST := Lib.hid hST
  have HEB := Lib.hid hEB
  have HE := Lib.hid hE
  have HD := Lib.hid hd
  have HDL := Lib.hid hdl
  obtain ⟨W1, hW1⟩ : ∃ W1, W1 = (w.alloc (.cells (madeCells #[Value.bool false] n) 4)).alloc (.cells #[.slice (some ⟨w.heap.size, 0, none⟩) n n] 139) := ⟨_, rfl⟩
  have hb1 : Below w.heap.size w W1 := by rw [hW1]; exact (below_alloc w _).alloc (by simp) _
  have o1 : OV W1 w.heap.size 4 (.slice (some ⟨w.heap.size, 0, none⟩) n n) ((List.replicate n false).map Value.bool) := by
    rw [hW1]; exact OV.below (own_falses w n (by omega)) (below_alloc _ _)
  have x1 : BL W1 (w.heap.size + 1) 139 [.slice (some ⟨w.heap.size, 0, none⟩) n n] := by
    rw [hW1]
    have := BL.new' (w.alloc (.cells (madeCells #[Value.bool false] n) 4)) #[.slice (some ⟨w.heap.size, 0, none⟩) n n] 139
    rwa [World.size_alloc] at this
  obtain ⟨q1, q2, q3⟩ := bools_at o1 (by simp) hq
  have c1 := x1.cell 0
  have s1 : W1.cell? ⟨b, 2, none⟩ = some (.int .i64 (q : Int)) := BL.cell (BL.bel hST hb1) 2
  have hst := (q3 true).1
  have hB1 : Burn n q es d ((List.replicate n false).set q true) := by
    refine ⟨by simp, by rw [fnB_set (by simpa using hq), if_pos rfl], fun A hA hl v hv hb => ?_⟩
    rw [fnB_set (by simpa using hq)] at hb
    by_cases e : q = v
    · subst e; exact hA
    · rw [if_neg e] at hb
      unfold fnB at hb
      rw [List.getD_eq_getElem?_getD, List.getElem?_replicate] at hb
      split at hb <;> cases hb
  have HU1 : Hid (UbR w w.heap.size n q es d ((List.replicate n false).set q true) (W1.setCell ⟨w.heap.size, q, none⟩ (.bool true))) :=
    ⟨x1.set_other (by simp) _, hst, hb1.setCell (p := ⟨w.heap.size, q, none⟩) (by simp) _, hB1⟩
  have HW1 : Hid (W1 = (w.alloc (.cells (madeCells #[Value.bool false] n) 4)).alloc (.cells #[.slice (some ⟨w.heap.size, 0, none⟩) n n] 139)) := hW1
  clear hW1 hb1 o1 x1 q3 hst hB1 hST hEB hE hd hdl
  go_enter Tryz.func102, Tryz.ntmps102
  go_wp2_with fail
  rw [← HW1.out]
  refine wp_region_still_tail 6 (by kernel_rfl) (by kernel_rfl) ?_
  change wpStill _ _ W1.drew _ _ _
  simp only [List.take_succ_cons, List.take_zero, List.drop_succ_cons, List.drop_zero]
  repeat still_step
  refine wpStill_nil ?_
  change wpList _ _ _ _ _ W1.drew
  clear hmk
  go_wp2_with fail
  have HU2 : Hid (UbR w w.heap.size n q es d ((List.replicate n false).set q true) (W1.setCell ⟨w.heap.size, q, none⟩ (.bool true)).drew) := ⟨HU1.out.1, HU1.out.2.1, HU1.out.2.2.1.drew, HU1.out.2.2.2⟩
  clear q1 q2 c1 s1 HW1 HU1
  go_loopg [6] (2 * nb n ((List.replicate n false).set q true) + 1) (fun m a wr => ∃ (bt : List Bool) (ag : Bool), a = .bool ag ∧ Hid (UbR w w.heap.size n q es d bt wr) ∧ Hid (ag = false → Calm n es d bt) ∧ Hid (m = 2 * nb n bt + ag.toNat))
  case atStart => exact ⟨_, true, rfl, HU2.out, (fun h => by cases h), rfl⟩
  case round =>
    obtain ⟨bt, ag, rfl, hu, hcm, hm⟩ := hrel
    obtain ⟨wo, rfl⟩ : ∃ wo : World, wo = wr := ⟨_, rfl⟩
    have hbo : b < wo.heap.size := by have := hu.out.2.2.1.size; omega
    have n1 : wo.cell? ⟨b, 0, none⟩ = some (.int .i64 (n : Int)) := BL.cell (BL.bel HST.out hu.out.2.2.1) 0
    cases ag
    · have hmk2 := run_make_row' (P := Tryz.prog) 139 4 (.bool false) 1 Tryz.underlying139 bool_info rfl .i64 .i64 n (by omega) (by omega)
      have x1 := hu.out.1.cell 0
      have HL0 : Hid (OV (wo.alloc (.cells (madeCells #[Value.bool false] n) 4)) wo.heap.size 4 (.slice (some ⟨wo.heap.size, 0, none⟩) n n) ((leftL n 0 bt).map Value.bool)) := by
        have := own_falses wo n (by omega)
        show OV _ _ _ _ _
        unfold leftL; simpa using this
      have HU0 := Lib.hid (hu.out.below (below_alloc wo (.cells (madeCells #[Value.bool false] n) 4)))
      have x2 : (wo.alloc (.cells (madeCells #[Value.bool false] n) 4)).cell? ⟨w.heap.size + 1, 0, none⟩ = some (.slice (some ⟨w.heap.size, 0, none⟩) n n) := HU0.out.1.cell 0
      have hwo : w.heap.size + 1 < wo.heap.size := hu.out.1.lt
      have HBL := Lib.hid hu.out.2.2.2.1
      go_wp2_with fail
      clear hmk2 x1 x2
      go_loopw [9, 64] (fun sm i wr => ∃ k : Nat, k ≤ n ∧ i = .int .i64 (k : Int) ∧ sm = .bool (((bt.take k).map (fun x => !x)).any id) ∧ Hid (UbR w w.heap.size n q es d bt wr) ∧ Hid (OV wr wo.heap.size 4 (.slice (some ⟨wo.heap.size, 0, none⟩) n n) ((leftL n k bt).map Value.bool))) (fun _ i _ => n - (intOf i).toNat)
      case atStart => exact ⟨0, Nat.zero_le _, rfl, by simp, HU0.out, HL0.out⟩
      case round =>
        obtain ⟨k, hk, rfl, rfl, hu2, hl2⟩ := hrel
        by_cases hlt : k < n
        · have x3 := hu2.out.1.cell 0
          obtain ⟨p1, -, -⟩ := bools_at hu2.out.2.1 hu2.out.2.2.2.1 hlt
          obtain ⟨q1, q2, q3⟩ := bools_at hl2.out (leftL_len HBL.out hk) hlt
          have HS := Lib.hid (someL_step (bt := bt) (k := k) (by rw [HBL.out]; exact hlt))
          have hset := (q3 (!fnB bt k)).1
          rw [leftL_set HBL.out hlt] at hset
          have HSet := Lib.hid hset
          rw [show bt.getD k false = fnB bt k from rfl] at p1
          have HU3 : Hid (UbR w w.heap.size n q es d bt (wr.setCell ⟨wo.heap.size, k, none⟩ (.bool (!fnB bt k)))) := ⟨hu2.out.1.set_other (by simp; omega) _, hu2.out.2.1.kept' (grownBy_cell wr ⟨wo.heap.size, k, none⟩ _) (.inr (by intro e'; have e' : some w.heap.size = some wo.heap.size := e'; simp at e'; omega)), hu2.out.2.2.1.setCell (p := ⟨wo.heap.size, k, none⟩) (by show w.heap.size ≤ wo.heap.size; omega) _, hu2.out.2.2.2⟩
          clear hset q3
          generalize fnB bt k = y at *
          generalize ((bt.take k).map (fun x => !x)).any id = sm at *
          cases sm
          all_goals
            go_wp2
            go_roundw
            case rel => exact ⟨k + 1, by omega, by go_num, by rw [HS.out]; simp, HU3.out, HSet.out⟩
            case measure => simp [intOf]; omega
        · obtain rfl : k = n := by omega
          have hl3 := hl2.out
          rw [leftL_all HBL.out] at hl3
          have HL3 := Lib.hid hl3
          have HT : Hid (bt.take k = bt) := List.take_of_length_le (by rw [HBL.out]; exact Nat.le_refl _)
          clear hl3
          go_wp2
          go_ret2
          exact ⟨wo.heap.size, k, bt, (by rw [HT.out]; rfl), OV.mono HL3.out (by omega), hu2.out.2.2.2, (by have h := hcm.out; simpa using h), hu2.out.2.2.1⟩
    · go_wp2
      go_loopw [6, 30] (fun a i wr => ∃ (k : Nat) (bt2 : List Bool) (ag2 : Bool), k ≤ n ∧ a = .bool ag2 ∧ i = .int .i64 (k : Int) ∧ Hid (UbR w w.heap.size n q es d bt2 wr) ∧ Hid ((ag2 = false ∧ bt2 = bt ∧ Calm k es d bt) ∨ (ag2 = true ∧ nb n bt2 < nb n bt))) (fun _ i _ => n - (intOf i).toNat)
      case atStart => exact ⟨0, bt, false, Nat.zero_le _, rfl, rfl, hu.out, .inl ⟨rfl, rfl, fun v hv => by omega⟩⟩
      case round =>
        obtain ⟨k, bt2, ag2, hk, rfl, rfl, hu2, hc2⟩ := hrel
        by_cases hlt : k < n
        · have hbb := hu2.out.2.2.1.size
          have hst2 := BL.bel HST.out hu2.out.2.2.1
          have d3 : wr.cell? ⟨b, 3, none⟩ = some (.slice (some ⟨gd, 0, none⟩) n capd) := BL.cell hst2 3
          have x2 := hu2.out.1.cell 0
          obtain ⟨p1, p2, p3⟩ := bools_at hu2.out.2.1 hu2.out.2.2.2.1 hlt
          obtain ⟨-, -, e1, -, -⟩ := OI.at' (HD.out.below hu2.out.2.2.1) (k := k) (by have := HDL.out; omega)
          have hfb : Hid (bt2.getD k false = fnB bt2 k) := rfl
          have hfd : Hid (d.getD k 0 = fnD d k) := rfl
          rw [hfb.out] at p1
          rw [hfd.out] at e1
          have HP3 := Lib.hid p3
          have HST2 := Lib.hid hst2
          clear p3 hst2
          cases hbk : fnB bt2 k
          · rw [hbk] at p1
            have hud : UbR w w.heap.size n q es d bt2 wr.drew := ⟨hu2.out.1, hu2.out.2.1, hu2.out.2.2.1.drew, hu2.out.2.2.2⟩
            have HJ := Lib.hid (joins_any b k eb n ve q (.slice (some ⟨gd, 0, none⟩) n capd) vs 0 es _ (fnB bt2) wr.drew HE.out hlt hn HST2.out (HEB.out.below hud.2.2.1) (isB_clo wr.drew (w.heap.size + 1) w.heap.size w.heap.size n n bt2 hud.1 hud.2.1 hud.2.2.2.1) (by simp; omega) (by simp; omega))
            have HUD := Lib.hid hud
            have HBK := Lib.hid hbk
            have hlow := joinE_le HE.out.pos (fnB bt2) k
            obtain ⟨jn, hjn⟩ : ∃ jn, jn = joinE es (fnB bt2) k := ⟨_, rfl⟩
            rw [← hjn] at HJ
            have HJN := Lib.hid hjn
            clear hbk hud hjn hlow
            go_wp2_with fail
            have HK0 : Hid (wr.drew.cell? ⟨b, 3, none⟩ = some (.slice (some ⟨gd, 0, none⟩) n capd) ∧ wr.drew.cell? ⟨gd, k, none⟩ = some (.int .i64 (fnD d k)) ∧ wr.drew.cell? ⟨w.heap.size + 1, 0, none⟩ = some (.slice (some ⟨w.heap.size, 0, none⟩) n n) ∧ wr.drew.cell? ⟨w.heap.size, k, none⟩ = some (.bool false) ∧ Below wr.heap.size wr wr.drew) := ⟨d3, e1, x2, p1, (Below.refl _ _).drew⟩
            have HK1 : Hid (∀ w1 : World, Below wr.drew.heap.size wr.drew w1 → (w1.cell? ⟨b, 3, none⟩ = some (.slice (some ⟨gd, 0, none⟩) n capd) ∧ w1.cell? ⟨gd, k, none⟩ = some (.int .i64 (fnD d k)) ∧ w1.cell? ⟨w.heap.size + 1, 0, none⟩ = some (.slice (some ⟨w.heap.size, 0, none⟩) n n) ∧ w1.cell? ⟨w.heap.size, k, none⟩ = some (.bool false) ∧ Below wr.heap.size wr w1)) := fun w1 hb => ⟨(hb.cell (p := ⟨b, 3, none⟩) (by simp; omega)).trans d3, (hb.cell (p := ⟨gd, k, none⟩) (block_lt_of_cell e1)).trans e1, (hb.cell (p := ⟨w.heap.size + 1, 0, none⟩) (block_lt_of_cell x2)).trans x2, (hb.cell (p := ⟨w.heap.size, k, none⟩) (block_lt_of_cell p1)).trans p1, (Below.refl _ _).drew.trans hb⟩
            go_region_held3 (fun W' : World => W'.cell? ⟨b, 3, none⟩ = some (.slice (some ⟨gd, 0, none⟩) n capd) ∧ W'.cell? ⟨gd, k, none⟩ = some (.int .i64 (fnD d k)) ∧ W'.cell? ⟨w.heap.size + 1, 0, none⟩ = some (.slice (some ⟨w.heap.size, 0, none⟩) n n) ∧ W'.cell? ⟨w.heap.size, k, none⟩ = some (.bool false) ∧ Below wr.heap.size wr W') (first | exact HK0.out | exact HKw.out) (first | (go_at_call 100; refine HJ.out.mono ?_; rintro e w1 ⟨rfl, hb⟩; have HKw := Lib.hid (HK1.out w1 hb); have HB := Lib.hid hb; clear hb))
            have hu3 := HUD.out.below HB.out
            obtain ⟨r1, r2, r3⟩ := bools_at hu3.2.1 hu3.2.2.2.1 hlt
            have y2 := hu3.1.cell 0
            have HR3 := Lib.hid (r3 true).1
            have HU3 := Lib.hid hu3
            clear hu3 r3 d3 e1 x2
            rw [show bt2.getD k false = fnB bt2 k from rfl, HBK.out] at r1
            go_wp2
            · have hlt2 : fnD d k < jn := by assumption
              have HBn := Lib.hid (HU3.out.2.2.2.step HE.out hlt (by rw [← HJN.out]; exact hlt2))
              have HNb := Lib.hid (nb_set HU3.out.2.2.2.1 hlt HBK.out)
              have HNc : Hid (nb n (bt2.set k true) < nb n bt) := by
                have := HNb.out
                rcases hc2.out with ⟨_, h2, _⟩ | ⟨_, h2⟩
                · rw [← h2]; exact this
                · exact Nat.lt_trans this h2
              go_roundw
              case rel => exact ⟨k + 1, bt2.set k true, true, by omega, rfl, by go_num, ⟨HU3.out.1.set_other (by simp) _, HR3.out, HU3.out.2.2.1.setCell (p := ⟨w.heap.size, k, none⟩) (by simp) _, HBn.out⟩, .inr ⟨rfl, HNc.out⟩⟩
              case measure => simp [intOf]; omega
            · have hge : ¬ fnD d k < jn := by omega
              go_roundw
              case rel => exact ⟨k + 1, bt2, ag2, by omega, rfl, by go_num, HU3.out, hc2.out.imp (fun h => ⟨h.1, h.2.1, fun v hv hf => (by
                rcases Nat.lt_or_ge v k with c | c
                · exact h.2.2 v c hf
                · have : v = k := by omega
                  subst this; rw [← h.2.1, ← HJN.out]; omega)⟩) id⟩
              case measure => simp [intOf]; omega
          · rw [hbk] at p1
            have HBK := Lib.hid hbk
            clear hbk
            go_wp2_with fail
            go_quiet (fail)
            go_wp2
            go_roundw
            case rel => exact ⟨k + 1, bt2, ag2, by omega, rfl, by go_num, hu2.out.below (below_drewN (Below.refl _ _) nq), hc2.out.imp (fun h => ⟨h.1, h.2.1, fun v hv hf => (by
              rcases Nat.lt_or_ge v k with c | c
              · exact h.2.2 v c hf
              · have : v = k := by omega
                subst this; rw [h.2.1] at HBK; rw [HBK.out] at hf; cases hf)⟩) id⟩
            case measure => simp [intOf]; omega
        · obtain rfl : k = n := by omega
          go_wp2
          go_roundg (2 * nb k bt2 + ag2.toNat)
          case measure =>
            rw [hm.out]
            rcases hc2.out with ⟨rfl, rfl, _⟩ | ⟨rfl, h⟩
            · simp
            · simp; omega
          case rel => exact ⟨bt2, ag2, rfl, hu2.out, (fun h => by
            rcases hc2.out with ⟨_, h2, h3⟩ | ⟨h2, _⟩
            · rw [h2]; exact h3
            · rw [h] at h2; cases h2), rfl⟩
end Go.Proofs.YtjfggodnfoknfaaGreatDoor

