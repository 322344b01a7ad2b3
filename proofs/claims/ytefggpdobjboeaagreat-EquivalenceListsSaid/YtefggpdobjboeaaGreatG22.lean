/- equivalence's normal: the iterator of normal forms.
   Contract of slices.SortFunc at divisors, out of the shelf's. -/
import Derived.Test.YtefggpdobjboeaaGreatG21
import Derived.Test.YtefggpdobjboeaaGreatG20
import Derived.Shelf.SlSortCmp.Whole1
import Derived.Shelf.SlGeneric
import Derived.Ground.SlsfProg
namespace Go.Proofs.YtefggpdobjboeaaGreat
open Go.RowKit Go.Shelf
attribute [local go_sem] Oper.semAt_some

/-- The divisor of some degree that belongs to a configuration at 0. -/
def nrm (deg : Int) : List Int → List Int
  | [] => []
  | _ :: t => (deg - t.sum) :: t
theorem nrm_len (deg : Int) (c : List Int) : (nrm deg c).length = c.length := by cases c <;> simp [nrm]
theorem sum_bd {t : List Int} {M : Int} (h : ∀ z ∈ t, -M ≤ z ∧ z ≤ M) (j : Nat) : -(M * t.length) ≤ (t.take j).sum ∧ (t.take j).sum ≤ M * t.length := by
  induction t generalizing j with
  | nil => simp
  | cons x r ih =>
    have hx := h x (by simp)
    have hM : 0 ≤ M := by omega
    cases j with
    | zero => simp only [List.take_zero, List.sum_nil, List.length_cons]; have : 0 ≤ M * ((r.length : Int) + 1) := Int.mul_nonneg hM (by omega); constructor <;> (push_cast; omega)
    | succ j =>
      have := ih (fun z hz => h z (List.mem_cons_of_mem _ hz)) j
      simp only [List.take_succ_cons, List.sum_cons, List.length_cons]
      rw [show (M * ((r.length + 1 : Nat) : Int)) = M * r.length + M by push_cast; rw [Int.mul_add, Int.mul_one]]
      omega
/-- All below the world W0 is as it was in it, and the box db holds a number. -/
structure NmPre (W0 : World) (db : Nat) (deg : Int) (W : World) : Prop where
  size : W0.heap.size ≤ W.heap.size
  old : ∀ k, k < W0.heap.size → W.heap[k]? = W0.heap[k]?
  box : BL W db 3 [.int .i64 deg]
def NmK (W0 : World) (db : Nat) (A C : World) : Prop := A.heap.size ≤ C.heap.size ∧ (∀ k, k < W0.heap.size → C.heap[k]? = A.heap[k]?) ∧ C.heap[db]? = A.heap[db]?
theorem NmK.trans_ {W0 : World} {db : Nat} (A B C : World) (h : NmK W0 db A B) (k : NmK W0 db B C) : NmK W0 db A C := ⟨Nat.le_trans h.1 k.1, fun x hx => (k.2.1 x hx).trans (h.2.1 x hx), k.2.2.trans h.2.2⟩
theorem NmPre.keep {W0 : World} {db : Nat} {deg : Int} {A C : World} (h : NmPre W0 db deg A) (k : NmK W0 db A C) : NmPre W0 db deg C := ⟨Nat.le_trans h.size k.1, fun x hx => (k.2.1 x hx).trans (h.old x hx), k.2.2.trans h.box⟩
theorem NmPre.below {W0 : World} {db : Nat} {deg : Int} {A C : World} (h : NmPre W0 db deg A) (hb : Below A.heap.size A C) : NmPre W0 db deg C :=
  ⟨Nat.le_trans h.size hb.size, fun x hx => (hb.block x (by have := h.size; omega)).trans (h.old x hx), h.box.bel hb⟩
theorem NmPre.cell {W0 : World} {db : Nat} {deg : Int} {W : World} (h : NmPre W0 db deg W) {p : Addr} (hp : p.block < W0.heap.size) : W.cell? p = W0.cell? p := World.cell?_of_block (h.old _ hp)
theorem NmPre.ri {W0 : World} {db : Nat} {deg : Int} {W : World} (h : NmPre W0 db deg W) {v : Value} {zs : List Int} (hr : RI W0 v zs) : RI W v zs := RV.keep hr h.size fun _ hp => h.cell hp
theorem normal_any (vl : Value) (L : List (List Int)) (deg : Int) (w : World) (hl : RR w vl L) : Calls Tryz.prog 49 #[vl, .int .i64 deg] w fun e w' =>
    e = .returned (.func (.func 89) #[] #[.pointer (some ⟨w.heap.size, 0, none⟩), .pointer (some ⟨w.heap.size + 1, 0, none⟩)]) ∧
      (w.alloc (.cells #[vl] 38)).alloc (.cells #[.int .i64 deg] 3) = w' := by
  obtain ⟨A, c, rfl, -⟩ := hl.open_
  clear hl
  go_enter Tryz.func49, Tryz.ntmps49
  go_wp2
  go_ret
  exact ⟨rfl, rfl⟩
theorem RI.atS {w : World} {ad : Addr} {l c : Nat} {zs : List Int} (h : RI w (.slice (some ad) l c) zs) {k : Nat} (hk : k < zs.length) : ∃ z, zs[k]? = some z ∧ ad.block < w.heap.size ∧ w.cell? (ad.add k) = some (.int .i64 z) := by
  obtain ⟨A, c', e, _, _, hc⟩ := RI.open_ h
  simp only [Value.slice.injEq] at e
  obtain ⟨ad', z, hA, hb, hz, hcl⟩ := hc k hk
  rw [← e.1] at hA
  simp only [Option.some.injEq] at hA
  subst hA
  exact ⟨z, hz, hb, hcl⟩
set_option maxRecDepth 100000 in
set_option maxHeartbeats 4000000 in
theorem normal1_iter (W0 : World) (lb db : Nat) (vl : Value) (L : List (List Int)) (deg : Int) (hL : RR W0 vl L) (hd : -1048576 ≤ deg ∧ deg ≤ 1048576) (hb : ∀ c ∈ L, 1 ≤ c.length ∧ c.length ≤ 12 ∧ ∀ z ∈ c, -1000 ≤ z ∧ z ≤ 1000) :
    IterC Tryz.prog 89 #[.pointer (some ⟨lb, 0, none⟩), .pointer (some ⟨db, 0, none⟩)] (fun x : Value × List Int => #[x.1]) (fun pre x W => OI W W0.heap.size x.1 x.2 ∧ ∃ rest, pre.map (·.2) ++ x.2 :: rest = L.map (nrm deg))
      (fun A B => Below A.heap.size A B) (NmK W0 db) (fun xs => xs.map (·.2) = L.map (nrm deg)) (fun _ => True) (fun W => NmPre W0 db deg W ∧ BL W lb 38 [vl]) := by
  rintro N l J Jx W ⟨hpre, hlb⟩ hJ hJx hY h0
  obtain ⟨A, c, rfl, hlc, hc, hcell⟩ := hL.open_
  have HCe := Lib.hid hcell
  have HJ := Lib.hid hJ
  have HY := Lib.hid hY
  have HP := Lib.hid hpre
  have HBd := Lib.hid hb
  have x0 : W.cell? ⟨lb, 0, none⟩ = some (.slice A L.length c) := hlb.cell 0
  clear hJ hY hpre hJx hcell hb hL hlb
  refine callsIn_of_wp Tryz.func89 rfl trivial ?_ rfl
  simp only [Tryz.ntmps89, List.size_toArray, List.length_cons, List.length_nil, Nat.reduceAdd, Nat.reduceSub, Array.replicate_succ, Array.replicate_zero, List.push_toArray, List.append_toArray, List.nil_append, List.cons_append]
  gi_wp2
  clear x0
  gi_loopg [11] L.length (fun k i wr => ∃ (j : Nat) (pre : List (Value × List Int)), j + k = L.length ∧ i = .int .i64 j ∧ Hid (J pre wr) ∧ Hid (pre.map (·.2) = (L.take j).map (nrm deg)) ∧ Hid (NmPre W0 db deg wr))
  case atStart => exact ⟨0, [], by omega, rfl, h0, rfl, HP.out⟩
  case round =>
    obtain ⟨j, pre, hjk, rfl, hj, hp, hpr⟩ := hrel
    by_cases hlt : j < L.length
    · obtain ⟨ad, zs, A1, c1, rfl, hab, hzs, hcl, hri⟩ := HCe.out j hlt
      have hcl1 : wr.cell? (ad.add j) = some (.slice A1 zs.length c1) := (hpr.out.cell (by rw [block_of_add]; exact hab)).trans hcl
      have hri1 := hpr.out.ri hri
      obtain ⟨hz1, hz12, hzb⟩ := HBd.out zs (List.mem_of_getElem? hzs.out)
      have HCl := Lib.hid (CloneD_any _ zs wr hri1 (by omega))
      have HRi := Lib.hid hri1
      have HZb := Lib.hid hzb
      have HZs := hzs
      have hablt : ad.block < wr.heap.size := by have := hpr.out.size; omega
      obtain ⟨K, hK⟩ : ∃ K, K = gk - 1 := ⟨_, rfl⟩
      clear hcl hri hri1 hzb hzs
      obtain ⟨wo, rfl⟩ : ∃ wo, wo = wr := ⟨wr, rfl⟩
      gi_wp2_with fail
      refine ⟨trivial, fun h => (by simp [Fence.wide] at h), (callsIn_wide.2 HCl.out).mono ?_⟩
      rintro e w1 ⟨v, rfl, ho, hb1⟩
      obtain ⟨z0, t, rfl⟩ : ∃ z0 t, zs = z0 :: t := by
        cases zs with
        | nil => simp at hz1
        | cons z0 t => exact ⟨z0, t, rfl⟩
      obtain ⟨g, cap, rfl, hgl, hgs⟩ := OV.shape ho (by simp)
      simp only [List.length_map, List.length_cons] at ho
      obtain ⟨-, -, d0, d1, d2⟩ := OI.at' ho (k := 0) (by simp)
      have HB1 := Lib.hid hb1
      have HRi1 := Lib.hid (RI.below HRi.out hb1)
      obtain ⟨A2, c2, he2, hlc2, -, hcell2⟩ := RI.open_ HRi1.out
      simp only [Value.slice.injEq, true_and] at he2
      obtain ⟨rfl, rfl⟩ := he2
      obtain ⟨ad1, _, rfl, -, -, -⟩ := hcell2 0 (by simp)
      simp only [List.length_cons] at hlc2
      have HS1 := Lib.hid (d2 deg).1
      have e0 : w1.cell? ⟨db, 0, none⟩ = some (.int .i64 deg) := (hpr.out.below hb1).box.cell 0
      have hdl : db < w1.heap.size := (hpr.out.below hb1).box.lt
      have hgB : wo.heap.size ≤ g := hgl
      have hB2 : Below wo.heap.size wo (w1.setCell ⟨g, 0, none⟩ (.int .i64 deg)) := hb1.setCell (p := ⟨g, 0, none⟩) hgl _
      have HB2 := Lib.hid hB2
      simp only [List.length_cons] at hz12
      clear ho d2 hb1 hcell2 hB2 hgs hgl
      simp only [List.length_map, List.length_cons]
      obtain ⟨B0, hB0⟩ : ∃ B0, B0 = wo.heap.size := ⟨_, rfl⟩
      have HS1' : Hid (OI (w1.setCell ⟨g, 0, none⟩ (.int .i64 deg)) B0 (.slice (some ⟨g, 0, none⟩) (t.length + 1) cap) (deg :: t)) := by show OI _ _ _ _; rw [hB0]; exact HS1.out
      have hB0g : B0 ≤ g := by omega
      clear HS1
      gi_wp2
      all_goals
        gi_loopg [23] t.length (fun k i w3 => ∃ m : Nat, m + k = t.length ∧ i = .int .i64 (m : Int) ∧ Hid (OI w3 B0 (.slice (some ⟨g, 0, none⟩) (t.length + 1) cap) ((deg - (t.take m).sum) :: t)) ∧ Hid (Below B0 wo w3))
        case atStart => exact ⟨0, by omega, rfl, by show OI _ _ _ _; simpa using HS1'.out, by rw [hB0]; exact HB2.out⟩
        case round =>
          obtain ⟨m, hmk, rfl, ho3, hb3⟩ := hrel
          by_cases hm : m < t.length
          · have hcm := RI.atS (RI.below HRi.out (hB0 ▸ hb3.out)) (k := m + 1) (by simp; omega)
            obtain ⟨y, hy, hadb, hcy⟩ := hcm
            have ea : (ad1.add (m + 1)) = ⟨ad1.block, ad1.off + (m + 1), none⟩ := by simp [Addr.add]
            rw [ea] at hcy
            have hcy2 : wr.cell? ⟨ad1.block, ad1.off + 1 + m, none⟩ = some (.int .i64 y) := by rw [show ad1.off + 1 + m = ad1.off + (m + 1) by omega]; exact hcy
            have hym : t[m]? = some y := by simpa using hy
            have hyb := HZb.out y (List.mem_cons_of_mem _ (List.mem_of_getElem? hym))
            have hsb := sum_bd (M := 1000) (t := t) (fun z hz => HZb.out z (List.mem_cons_of_mem _ hz)) m
            obtain ⟨S, hS⟩ : ∃ S, S = deg - (t.take m).sum := ⟨_, rfl⟩
            rw [← hS] at ho3
            have hS1 : -1100000 ≤ S ∧ S ≤ 1100000 := by omega
            have hS2 : Hid (deg - (t.take (m + 1)).sum = S - y) := by
              show _ = _
              rw [List.take_add_one, hym, hS]
              simp only [Option.toList_some, List.sum_append, List.sum_cons, List.sum_nil]
              omega
            obtain ⟨-, hgB, q0, q1, q2⟩ := OI.at' ho3.out (k := 0) (by simp)
            simp only [List.getD_cons_zero, List.set_cons_zero] at q0 q2
            have HQ := Lib.hid (q2 (S - y)).1
            have HBq := Lib.hid (hb3.out.setCell (p := ⟨g, 0, none⟩) hgB (.int .i64 (S - y)))
            clear hy hym hsb hS q2 ho3 hb3 hcy ea
            gi_wp2
            all_goals
             gi_roundg (gk - 1)
             case measure => omega
             case rel => exact ⟨m + 1, by omega, by go_num, by show OI _ _ _ _; rw [hS2.out]; exact HQ.out, HBq.out⟩
          · obtain rfl : m = t.length := by omega
            rw [List.take_length] at ho3
            have hj3 := HJ.out pre wo wr hj.out (hB0 ▸ hb3.out)
            have HP3 := Lib.hid (hpr.out.below (hB0 ▸ hb3.out))
            have ho4 : OI wr W0.heap.size (.slice (some ⟨g, 0, none⟩) (t.length + 1) cap) (nrm deg (z0 :: t)) := OV.mono ho3.out (by have := hpr.out.size; omega)
            have HE2 : Hid (∃ rest, pre.map (·.2) ++ nrm deg (z0 :: t) :: rest = L.map (nrm deg)) := by
              refine ⟨(L.drop (j + 1)).map (nrm deg), ?_⟩
              have e : L = L.take j ++ (z0 :: t) :: L.drop (j + 1) := by
                obtain ⟨h1, h2⟩ := List.getElem?_eq_some_iff.1 HZs.out
                rw [← h2, ← List.drop_eq_getElem_cons h1, List.take_append_drop]
              rw [hp.out]
              conv => rhs; rw [e]
              simp
            have HT1 : Hid (L.take (j + 1) = L.take j ++ [z0 :: t]) := by show _ = _; rw [List.take_add_one, HZs.out]; rfl
            obtain ⟨fn, tmps, assign, body, hy, hRd⟩ := HY.out pre (.slice (some ⟨g, 0, none⟩) (t.length + 1) cap, nrm deg (z0 :: t)) _ hj3 ⟨ho4, HE2.out⟩
            dsimp only at hy hRd
            have HR := Lib.hid hRd
            clear hRd hj3 ho4 HE2 ho3 hb3
            gi_wp2_with fail
            refine ⟨fun h => (by simp [Fence.wide] at h), HR.out.mono ?_⟩
            rintro e W2 (⟨rfl, hJ2, hk2⟩ | ⟨rfl, hJx2⟩)
            · have HJ2 := Lib.hid hJ2
              have HK2 := Lib.hid hk2
              clear hJ2 hk2 hy
              gi_wp2
              gi_roundg K
              case measure => omega
              case rel => exact ⟨j + 1, pre ++ [(Value.slice (some ⟨g, 0, none⟩) (t.length + 1) cap, nrm deg (z0 :: t))], by omega, by go_num, HJ2.out, by show _ = _; rw [HT1.out, List.map_append, List.map_append, hp.out]; rfl, HP3.out.keep HK2.out⟩
            · clear hy
              gi_wp2
              refine bodyPost_ret (results_none rfl _ _ _) rfl ?_
              exact ⟨⟨_, rfl⟩, .inr ⟨_, trivial, hJx2⟩⟩
    · have hje : L.take j = L := List.take_of_length_le (by omega)
      rw [hje] at hp
      have HPE := hp
      clear hje
      gi_wp2
      go_end0
      exact ⟨⟨_, rfl⟩, .inl ⟨pre, HPE.out, hj.out⟩⟩
end Go.Proofs.YtefggpdobjboeaaGreat

namespace Go.Proofs.YtefggpdobjboeaaGreat
open Go.RowKit Go.Shelf Go.Sort

theorem cmpL_refl : ∀ xs, cmpL xs xs = 0
  | [] => rfl
  | x :: r => by
    have : cmpI x x = 0 := by simp [cmpI]
    rw [cmpL, if_neg (by simp [this]), cmpL_refl r]
theorem cmpL_cons (x y : Int) (r s : List Int) : cmpL (x :: r) (y :: s) = if x < y then -1 else if y < x then 1 else cmpL r s := by
  rw [cmpL]; unfold cmpI
  by_cases h1 : x < y
  · simp [h1]
  · by_cases h2 : y < x
    · simp [h1, h2]
    · simp [h1, h2]
theorem cmpL_nil_cons (y : Int) (s : List Int) : cmpL [] (y :: s) = -1 := by rw [cmpL]
theorem cmpL_cons_nil (x : Int) (r : List Int) : cmpL (x :: r) [] = 1 := by rw [cmpL]
theorem cmpL_nil : cmpL [] [] = 0 := by rw [cmpL]
theorem cmpL_lt : ∀ xs ys zs, cmpL xs ys < 0 → cmpL ys zs < 0 → cmpL xs zs < 0 := by
  intro xs
  induction xs with
  | nil =>
    intro ys zs h1 h2
    cases ys with
    | nil => rw [cmpL_nil] at h1; omega
    | cons y s => cases zs with
      | nil => rw [cmpL_cons_nil] at h2; omega
      | cons z t => rw [cmpL_nil_cons]; omega
  | cons x r ih =>
    intro ys zs h1 h2
    cases ys with
    | nil => rw [cmpL_cons_nil] at h1; omega
    | cons y s => cases zs with
      | nil => rw [cmpL_cons_nil] at h2; omega
      | cons z t =>
        rw [cmpL_cons] at h1 h2 ⊢
        have := ih s t
        repeat' split at h1
        all_goals (repeat' split at h2)
        all_goals (repeat' split)
        all_goals first | omega | exact this h1 h2
theorem cmpL_ge : ∀ xs ys zs, ¬ cmpL xs ys < 0 → ¬ cmpL ys zs < 0 → ¬ cmpL xs zs < 0 := by
  intro xs
  induction xs with
  | nil =>
    intro ys zs h1 h2
    cases ys with
    | nil => exact h2
    | cons y s => rw [cmpL_nil_cons] at h1; omega
  | cons x r ih =>
    intro ys zs h1 h2
    cases zs with
    | nil => rw [cmpL_cons_nil]; omega
    | cons z t => cases ys with
      | nil => rw [cmpL_nil_cons] at h2; omega
      | cons y s =>
        rw [cmpL_cons] at h1 h2 ⊢
        have := ih s t
        repeat' split at h1
        all_goals (repeat' split at h2)
        all_goals (repeat' split)
        all_goals first | omega | exact this h1 h2
theorem cmpL_anti : ∀ xs ys, ¬ cmpL xs ys < 0 → ¬ cmpL ys xs < 0 → xs = ys := by
  intro xs
  induction xs with
  | nil =>
    intro ys h1 h2
    cases ys with
    | nil => rfl
    | cons y s => rw [cmpL_nil_cons] at h1; omega
  | cons x r ih =>
    intro ys h1 h2
    cases ys with
    | nil => rw [cmpL_nil_cons] at h2; omega
    | cons y s =>
      rw [cmpL_cons] at h1 h2
      have := ih s
      repeat' split at h1
      all_goals (repeat' split at h2)
      all_goals first | omega | (rw [this h1 h2]; congr 1; omega)
/-- The sort of slices by a function, at this program: the same numbers, read off. -/
def sortD_ren : Go.Shelf.Ren := ⟨fun | 6 => 51 | 15 => 93 | 14 => 92 | 28 => 134 | 29 => 135 | 20 => 126 | 21 => 127 | 22 => 128 | 23 => 129 | 24 => 130 | 25 => 131 | 26 => 132 | 27 => 133 | 46 => 161 | 47 => 162 | 48 => 163 | 49 => 164 | 50 => 165 | 57 => 187 | n => n, fun | 22 => 38 | 24 => 26 | 25 => 93 | 3 => 3 | 39 => 126 | 0 => 0 | 53 => 164 | 55 => 166 | 4 => 4 | 46 => 157 | 45 => 156 | 50 => 161 | 5 => 5 | 9 => 9 | 66 => 195 | 70 => 199 | 76 => 222 | 77 => 223 | n => n, fun | n => n⟩
theorem sortD : Go.Proofs.SlLaysF.n6 Tryz.prog sortD_ren := {
  mixed := by kernel_rfl
  f6 := ⟨Tryz.f51.name, by decide, Tryz.func51.trans (congrArg some (by kernel_rfl))⟩
  f14 := ⟨Tryz.f92.name, by decide, Tryz.func92.trans (congrArg some (by kernel_rfl))⟩
  f15 := Tryz.func93.trans (congrArg some (by kernel_rfl))
  f20 := ⟨Tryz.f126.name, by decide, Tryz.func126.trans (congrArg some (by kernel_rfl))⟩
  f21 := ⟨Tryz.f127.name, by decide, Tryz.func127.trans (congrArg some (by kernel_rfl))⟩
  f22 := ⟨Tryz.f128.name, by decide, Tryz.func128.trans (congrArg some (by kernel_rfl))⟩
  f23 := ⟨Tryz.f129.name, by decide, Tryz.func129.trans (congrArg some (by kernel_rfl))⟩
  f24 := ⟨Tryz.f130.name, by decide, Tryz.func130.trans (congrArg some (by kernel_rfl))⟩
  f25 := ⟨Tryz.f131.name, by decide, Tryz.func131.trans (congrArg some (by kernel_rfl))⟩
  f26 := ⟨Tryz.f132.name, by decide, Tryz.func132.trans (congrArg some (by kernel_rfl))⟩
  f27 := ⟨Tryz.f133.name, by decide, Tryz.func133.trans (congrArg some (by kernel_rfl))⟩
  f28 := Tryz.func134.trans (congrArg some (by kernel_rfl))
  f29 := Tryz.func135.trans (congrArg some (by kernel_rfl))
  f46 := ⟨Tryz.f161.name, by decide, Tryz.func161.trans (congrArg some (by kernel_rfl))⟩
  f47 := Tryz.func162.trans (congrArg some (by kernel_rfl))
  f48 := Tryz.func163.trans (congrArg some (by kernel_rfl))
  f49 := ⟨Tryz.f164.name, by decide, Tryz.func164.trans (congrArg some (by kernel_rfl))⟩
  f50 := ⟨Tryz.f165.name, by decide, Tryz.func165.trans (congrArg some (by kernel_rfl))⟩
  f57 := ⟨Tryz.f187.name, by decide, Tryz.func187.trans (congrArg some (by kernel_rfl))⟩
  t0 := Tryz.underlying0
  a0 := Tryz.isAgg0
  z0 := Tryz.sizeOf0
  v0 := Tryz.zeroValue0
  t3 := Tryz.underlying3
  a3 := Tryz.isAgg3
  z3 := Tryz.sizeOf3
  v3 := Tryz.zeroValue3
  t4 := Tryz.underlying4
  a4 := Tryz.isAgg4
  z4 := Tryz.sizeOf4
  v4 := Tryz.zeroValue4
  t5 := Tryz.underlying5
  a5 := Tryz.isAgg5
  z5 := Tryz.sizeOf5
  v5 := Tryz.zeroValue5
  t9 := Tryz.underlying9
  a9 := Tryz.isAgg9
  z9 := Tryz.sizeOf9
  v9 := Tryz.zeroValue9
  t22 := Tryz.underlying38
  a22 := Tryz.isAgg38
  z22 := Tryz.sizeOf38
  v22 := Tryz.zeroValue38
  a24 := Tryz.isAgg26
  z24 := Tryz.sizeOf26
  t25 := Tryz.underlying93
  a25 := Tryz.isAgg93
  z25 := Tryz.sizeOf93
  v25 := Tryz.zeroValue93
  t39 := Tryz.underlying126
  a39 := Tryz.isAgg126
  z39 := Tryz.sizeOf126
  v39 := Tryz.zeroValue126
  t45 := Tryz.underlying156
  a45 := Tryz.isAgg156
  z45 := Tryz.sizeOf156
  v45 := Tryz.zeroValue156
  t46 := Tryz.underlying157
  a46 := Tryz.isAgg157
  z46 := Tryz.sizeOf157
  v46 := Tryz.zeroValue157
  t50 := Tryz.underlying161
  a50 := Tryz.isAgg161
  z50 := Tryz.sizeOf161
  v50 := Tryz.zeroValue161
  t53 := Tryz.underlying164
  a53 := Tryz.isAgg164
  z53 := Tryz.sizeOf164
  v53 := Tryz.zeroValue164
  t55 := Tryz.underlying166
  a55 := Tryz.isAgg166
  z55 := Tryz.sizeOf166
  v55 := Tryz.zeroValue166
  t66 := Tryz.underlying195
  a66 := Tryz.isAgg195
  z66 := Tryz.sizeOf195
  v66 := Tryz.zeroValue195
  t70 := Tryz.underlying199
  a70 := Tryz.isAgg199
  z70 := Tryz.sizeOf199
  v70 := Tryz.zeroValue199
  t76 := Tryz.underlying222
  a76 := Tryz.isAgg222
  z76 := Tryz.sizeOf222
  v76 := Tryz.zeroValue222
  t77 := Tryz.underlying223
  a77 := Tryz.isAgg223
  z77 := Tryz.sizeOf223
  v77 := Tryz.zeroValue223 }
theorem sw_heap {α : Type} [Inhabited α] (enc : α → Value) (W : World) (g m : Nat) (dk : Array α) (os : Array Obj) : Fr [g] W (sortWorld enc W g 0 m dk os) := by
  refine ⟨rfl, rfl, rfl, ?_, fun k hk hn => ?_⟩
  · show W.heap.size ≤ ((W.heap.modify g _) ++ os).size
    simp
  · show ((W.heap.modify g _) ++ os)[k]? = _
    simp only [List.mem_cons, List.not_mem_nil, or_false] at hn
    rw [Array.getElem?_append_left (by simpa using hk), Array.getElem?_modify, if_neg (fun e => hn e.symm)]
theorem sw_cell {α : Type} [Inhabited α] (enc : α → Value) (W : World) (g m : Nat) (d dk : Array α) (os : Array Obj) (hH : Go.Sort.Holds enc W g 0 d) (hs : dk.size = d.size) {j : Nat} (hj : j < dk.size) :
    (sortWorld enc W g 0 m dk os).cell? ⟨g, j, none⟩ = some (enc dk[j]!) := by
  have h := (holds_putRow enc (Go.Sort.ahead W m) g 0 d dk hH hs j hj).1
  rw [Nat.zero_add] at h
  obtain ⟨c, e, fr, hh, hc⟩ := cells_of_cell? h
  have hl : g < (putRow enc (Go.Sort.ahead W m) g 0 dk).heap.size := lt_of_block hh
  have : (sortWorld enc W g 0 m dk os).heap[g]? = some (.cells c e fr) := by
    show ((putRow enc (Go.Sort.ahead W m) g 0 dk).heap ++ os)[g]? = _
    rw [Array.getElem?_append_left hl]; exact hh
  rw [cell_of_row _ g j c e fr this]
  exact hc
set_option maxRecDepth 100000 in
set_option maxHeartbeats 1000000 in
theorem sortD_any (W : World) (B g cap : Nat) (items : List (Value × List Int)) (hov : OV W B 26 (.slice (some ⟨g, 0, none⟩) items.length cap) (items.map (·.1))) (hne : items ≠ []) (hoi : ∀ x ∈ items, ∃ B', OI W B' x.1 x.2) :
    Calls Tryz.prog 51 #[.slice (some ⟨g, 0, none⟩) items.length cap, .func (.func 52) #[] #[]] W fun e w' =>
      e = .returned (.tuple #[]) ∧ ∃ its : List (Value × List Int), its.Perm items ∧ (∀ (i j : Nat) (a b : Value × List Int), i < j → its[i]? = some a → its[j]? = some b → ¬ cmpL b.2 a.2 < 0) ∧
        RV w' (.slice (some ⟨g, 0, none⟩) items.length cap) (its.map (·.1)) ∧ (∀ x ∈ its, RI w' x.1 x.2) ∧ Fr [g] W w' := by
  obtain ⟨x0, r0, hx0⟩ := List.exists_cons_of_ne_nil hne
  haveI : Inhabited {x : Value × List Int // x ∈ items} := ⟨⟨x0, by rw [hx0]; simp⟩⟩
  obtain ⟨enc, henc⟩ : ∃ enc : {x : Value × List Int // x ∈ items} → Value, enc = fun x => x.1.1 := ⟨_, rfl⟩
  obtain ⟨cf, hcf⟩ : ∃ cf : {x : Value × List Int // x ∈ items} → {x : Value × List Int // x ∈ items} → Int, cf = fun x y => cmpL x.1.2 y.1.2 := ⟨_, rfl⟩
  obtain ⟨d, hd⟩ : ∃ d : Array {x : Value × List Int // x ∈ items}, d = items.attach.toArray := ⟨_, rfl⟩
  have hds : d.size = items.length := by rw [hd]; simp
  have hlt : ∀ x y, ltOf cf x y = decide (cmpL x.1.2 y.1.2 < 0) := fun x y => by rw [hcf]; rfl
  have hswo : SWO (ltOf cf) := ⟨fun x => by rw [hlt, cmpL_refl]; rfl, fun x y z h1 h2 => by
    rw [hlt, decide_eq_true_eq] at *; exact cmpL_lt _ _ _ h1 h2, fun x y z h1 h2 => by
    rw [hlt, decide_eq_false_iff_not] at *; exact cmpL_ge _ _ _ h1 h2⟩
  have hgl : g < W.heap.size := (hov.own_lt rfl).1
  have hoiw : ∀ x : {x : Value × List Int // x ∈ items}, ∀ W', Fr [g] W W' → RI W' x.1.1 x.1.2 := by
    intro x W' hfr
    obtain ⟨B', h⟩ := hoi x.1 x.2
    refine (h.keepG fun g' hg' => ?_).rv
    refine hfr.block g' (h.own_lt hg').1 ?_
    simp only [List.mem_cons, List.not_mem_nil, or_false]
    rintro rfl
    exact OV.own_ne h hov (by decide) hg' rfl
  have hH : Go.Sort.Holds enc W g 0 d := by
    intro j hj
    rw [hds] at hj
    have hdj : d[j]! = ⟨items[j], List.getElem_mem _⟩ := by
      rw [getElem!_pos d j (by rw [hds]; exact hj)]
      simp [hd]
    refine ⟨?_, ?_⟩
    · obtain ⟨A, c, e, _, _, hc⟩ := OV.rv hov
      simp only [Value.slice.injEq] at e
      obtain ⟨ad, hA, _, hcc⟩ := hc j (by simpa using hj)
      rw [← e.1] at hA
      simp only [Option.some.injEq] at hA
      subst hA
      have e2 : (⟨g, 0, none⟩ : Addr).add j = ⟨g, j, none⟩ := by unfold Addr.add; split <;> simp_all
      rw [e2] at hcc
      rw [Nat.zero_add, hcc, hdj, henc]
      simp [hj]
    · obtain ⟨c, hc, _⟩ := hov.block_ (g := g) rfl
      exact frozen_of_row W g _ c _ hc
  have hcmp : CmpReads Tryz.prog 52 #[] enc cf g 0 d.size W := by
    intro m os dk hs x y
    have hfr := sw_heap enc W g m dk os
    have := cmpC_any x.1.1 y.1.1 x.1.2 y.1.2 (sortWorld enc W g 0 m dk os) (hoiw x _ hfr) (hoiw y _ hfr)
    rw [henc] at this
    rw [henc, hcf]
    show Calls Tryz.prog 52 #[x.1.1, y.1.1] _ _
    exact Calls.mono this fun e w' h => ⟨h.1, 0, h.2.symm⟩
  have h1 : OneCell enc := by
    intro x
    obtain ⟨B', h⟩ := hoi x.1 x.2
    obtain ⟨A, c, e, _⟩ := OV.rv h
    rw [henc]
    show x.1.1.oneCell' = true
    rw [e]; rfl
  have eg : ∀ args w, (callFunc 52 args).run Tryz.prog w = .ok (.enter 52 args) w := enters_of Tryz.func52 (by kernel_rfl) rfl
  have hcon := Any.slices_SortFunc sortD enc h1 cf hswo 52 #[] g 0 cap d W eg hcmp.lays hH hgl (by rw [hds]; have := hov.2; simp at this; omega)
  rw [hds] at hcon
  change Calls Tryz.prog 51 _ _ _ at hcon
  refine hcon.mono ?_
  rintro e w' ⟨rfl, d', m, os, ⟨hp1, -, hp3⟩, hs, rfl⟩
  rw [hds] at hp1
  have hex : ∀ (a : Array {x : Value × List Int // x ∈ items}), a.size = items.length → a.extract 0 items.length = a := fun a ha => by rw [← ha]; simp
  rw [hex d' hp1, hex d hds] at hp3
  have hfr := sw_heap enc W g m d' os
  refine ⟨rfl, d'.toList.map (·.1), ?_, ?_, ?_, ?_, hfr⟩
  · have := hp3.map (fun x : {x : Value × List Int // x ∈ items} => x.1)
    refine this.trans (List.Perm.of_eq ?_)
    rw [hd]; exact List.attach_map_subtype_val items
  · intro i j a b hij ha hb
    simp only [List.getElem?_map, Option.map_eq_some_iff] at ha hb
    obtain ⟨a', ha', rfl⟩ := ha
    obtain ⟨b', hb', rfl⟩ := hb
    rw [Array.getElem?_toList] at ha' hb'
    obtain ⟨hi, rfl⟩ := Array.getElem?_eq_some_iff.1 ha'
    obtain ⟨hj, rfl⟩ := Array.getElem?_eq_some_iff.1 hb'
    have := hs i j (Nat.zero_le _) hij (by omega)
    rw [hlt, decide_eq_false_iff_not, getElem!_pos d' j hj, getElem!_pos d' i hi] at this
    exact this
  · refine ⟨some ⟨g, 0, none⟩, cap, by simp [hp1], ?_, by have := hov.2; simpa [hp1] using this, fun k hk => ⟨_, rfl, by have := hfr.size; show g < _; omega, ?_⟩⟩
    · obtain ⟨A, c, e, hl, _⟩ := OV.rv hov
      simp only [Value.slice.injEq] at e
      simp [hp1] at hl ⊢; omega
    · have hk' : k < d'.size := by simpa using hk
      have e2 : ∀ g k : Nat, (⟨g, 0, none⟩ : Addr).add k = ⟨g, k, none⟩ := fun g k => by unfold Addr.add; split <;> simp_all
      rw [e2, sw_cell enc W g m d d' os hH (by omega) hk', getElem!_pos d' k hk', henc]
      simp [hk']
  · intro x hx
    obtain ⟨y, _, rfl⟩ := List.mem_map.1 hx
    exact hoiw y _ hfr
end Go.Proofs.YtefggpdobjboeaaGreat
