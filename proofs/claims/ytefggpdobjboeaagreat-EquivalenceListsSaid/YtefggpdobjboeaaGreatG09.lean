/- Contract of reduced's begin.
   Contracts of slices.Max at ints, slices.Min at scripts.
   Contracts of package equivalence: given, each, least.
   Contracts of package equivalence: each and least.
   Contracts of reduced's closures on bools. -/
import Derived.Test.YtefggpdobjboeaaGreatG08
import Derived.Deep.OwnRows
import Derived.Test.YtefggpdobjboeaaGreatG05
import Derived.Test.YtefggpdobjboeaaGreatG03
namespace Go.Proofs.YtefggpdobjboeaaGreat
open Go.RowKit Go.Shelf

/-- A whole state: the graph, a vertex, a divisor and a script of the call's own. -/
def Stt (w : World) (B b n : Nat) (ve : Value) (q : Int) (ds ss : List Int) : Prop := ∃ gd capd gs caps, ST w b n ve q (.slice (some ⟨gd, 0, none⟩) n capd) (.slice (some ⟨gs, 0, none⟩) n caps) 0 ∧
  OI w B (.slice (some ⟨gd, 0, none⟩) n capd) ds ∧ OI w B (.slice (some ⟨gs, 0, none⟩) n caps) ss ∧ gd ≠ gs ∧ B ≤ b ∧ ds.length = n ∧ ss.length = n
theorem own_zeros (W : World) (n : Nat) (hn : n ≤ 1000) : OI (W.alloc (.cells (madeCells #[Value.int .i64 0] n) 3)) W.heap.size (.slice (some ⟨W.heap.size, 0, none⟩) n n) (List.replicate n 0) := by
  have hs : (madeCells #[Value.int .i64 0] n).toList = List.replicate n (.int .i64 0) := by simpa using toList_madeCells_one (.int .i64 0) n
  refine ⟨⟨by simp, .inr ⟨W.heap.size, n, madeCells #[Value.int .i64 0] n, by simp, Nat.le_refl _, heap_alloc_new W _, by simp, by unfold maxLen; omega, ?_, ?_⟩⟩, by simp; omega⟩
  · have := congrArg List.length hs
    simpa using this
  · rw [hs]; simp
theorem clone_shape (va : Value) (xs : List Int) (w : World) (ha : RI w va xs) (n : Nat) (hl : xs.length = n) (hn1 : 1 ≤ n) :
    Calls Tryz.prog 29 #[va] w fun e w' => ∃ g cap, e = .returned (.slice (some ⟨g, 0, none⟩) n cap) ∧ Hid (OI w' w.heap.size (.slice (some ⟨g, 0, none⟩) n cap) xs) ∧ Hid (Below w.heap.size w w') := by
  refine (CloneD_any va xs w ha ha.len).mono ?_
  rintro e w1 ⟨v1, rfl, ho, hb⟩
  obtain ⟨g, cap, rfl, _⟩ := OI.at_ ho (k := 0) (by omega)
  subst hl
  exact ⟨g, cap, rfl, ho, hb⟩
set_option maxRecDepth 100000 in
set_option maxHeartbeats 4000000 in
theorem begin_any (g d : Value) (n : Nat) (q : Int) (es : List Tri) (ds : List Int) (w : World) (hg : GV w g n es) (hd : RI w d ds) (hdl : ds.length = n) (hn : n ≤ 12) (hn1 : 1 ≤ n) :
    Calls Tryz.prog 77 #[g, .int .i64 q, d] w fun e w' => ∃ b ve, e = .returned (.pointer (some ⟨b, 0, none⟩)) ∧ g = .agg #[.int .i64 (n : Int), ve] ∧ Stt w' w.heap.size b n ve q ds (List.replicate n 0) ∧ Below w.heap.size w w' := by
  obtain ⟨A, c, rfl, hlc, hc, -⟩ := hg.open_
  obtain ⟨A2, c2, rfl, -, -, -⟩ := hd.open_
  obtain ⟨W0, hW0⟩ : ∃ W0, W0 = w.alloc (.cells #[.int .i64 (n : Int), .slice A es.length c] 24) := ⟨_, rfl⟩
  have hb0 : Below w.heap.size w W0 := by rw [hW0]; exact below_alloc w _
  have hz0 : W0.heap.size = w.heap.size + 1 := by rw [hW0]; simp
  have c0 : W0.cell? ⟨w.heap.size, 0, none⟩ = some (.int .i64 (n : Int)) := by rw [hW0]; exact cell_lit rfl
  have c1 : W0.cell? ⟨w.heap.size, 1, none⟩ = some (.slice A es.length c) := by rw [hW0]; exact cell_lit rfl
  have hmk := run_make_row' (P := Tryz.prog) 29 3 (.int .i64 0) 8 Tryz.underlying29 int_info rfl .i64 .i64 n (by omega) (by omega)
  have HD0 := Lib.hid (hd.below hb0)
  have HMZ := Lib.hid (fun W => own_zeros W n (by omega))
  have HB0 := Lib.hid hb0
  have HZ0 := Lib.hid hz0
  have HDL := Lib.hid hdl
  have HW0 : Hid (W0 = w.alloc (.cells #[.int .i64 (n : Int), .slice A es.length c] 24)) := hW0
  clear hb0 hz0 hdl hW0 hd hg
  go_enter Tryz.func77, Tryz.ntmps77
  go_wp2
  rw [← HW0.out]
  have hcA := Lib.hid (clone_shape _ ds W0.drew HD0.out n HDL.out hn1)
  have hcB := Lib.hid (clone_shape _ ds (W0.alloc (.cells (madeCells #[Value.int .i64 0] n) 3)).drew (show RI (W0.alloc (.cells (madeCells #[Value.int .i64 0] n) 3)).drew _ ds from RI.below (w := W0) HD0.out (below_alloc W0 _).drew) n HDL.out hn1)
  have hzl : w.heap.size < W0.heap.size := by have := HZ0.out; omega
  have d0 : (W0.alloc (.cells (madeCells #[Value.int .i64 0] n) 3)).cell? ⟨w.heap.size, 0, none⟩ = some (.int .i64 (n : Int)) := (World.cell?_alloc_lt _ _ _ hzl).trans c0
  have d1 : (W0.alloc (.cells (madeCells #[Value.int .i64 0] n) 3)).cell? ⟨w.heap.size, 1, none⟩ = some (.slice A es.length c) := (World.cell?_alloc_lt _ _ _ hzl).trans c1
  have CA : Hid (∀ w1 : World, Below W0.drew.heap.size W0.drew w1 → w1.cell? ⟨w.heap.size, 0, none⟩ = some (.int .i64 (n : Int)) ∧ w1.cell? ⟨w.heap.size, 1, none⟩ = some (.slice A es.length c)) := fun w1 hb => ⟨(hb.cell (p := ⟨w.heap.size, 0, none⟩) hzl).trans c0, (hb.cell (p := ⟨w.heap.size, 1, none⟩) hzl).trans c1⟩
  have CB : Hid (∀ w1 : World, Below (W0.alloc (.cells (madeCells #[Value.int .i64 0] n) 3)).drew.heap.size (W0.alloc (.cells (madeCells #[Value.int .i64 0] n) 3)).drew w1 → w1.cell? ⟨w.heap.size, 0, none⟩ = some (.int .i64 (n : Int)) ∧ w1.cell? ⟨w.heap.size, 1, none⟩ = some (.slice A es.length c)) := fun w1 hb => ⟨(hb.cell (p := ⟨w.heap.size, 0, none⟩) (by simp; omega)).trans d0, (hb.cell (p := ⟨w.heap.size, 1, none⟩) (by simp; omega)).trans d1⟩
  go_region_with (go_at_call 29; (first | (refine hcA.out.mono ?_; rintro e w1 ⟨gd, cap, rfl, ho, hb⟩; obtain ⟨k0, k1⟩ := CA.out w1 hb.out; have kz : w.heap.size < w1.heap.size := block_lt_of_cell k0) | (refine hcB.out.mono ?_; rintro e w1 ⟨gd, cap, rfl, ho, hb⟩; obtain ⟨k0, k1⟩ := CB.out w1 hb.out; have kz : w.heap.size < w1.heap.size := block_lt_of_cell k0)))
  all_goals
    go_wp2
    go_ret
    have hz := HZ0.out
    have hbb := HB0.out
    first
    | (refine ⟨w1.heap.size + 1, _, rfl, rfl, ?_⟩
       have h1 := OI.below (OI.below ho.out (below_alloc w1 (.cells (madeCells #[Value.int .i64 0] n) 3))) (below_alloc _ (.cells #[.int .i64 (n : Int), .slice A es.length c, .int .i64 q, .slice (some ⟨gd, 0, none⟩) n cap, .slice (some ⟨w1.heap.size, 0, none⟩) n n, .int .i64 0] 143))
       have h2 := OI.below (HMZ.out w1) (below_alloc _ (.cells #[.int .i64 (n : Int), .slice A es.length c, .int .i64 q, .slice (some ⟨gd, 0, none⟩) n cap, .slice (some ⟨w1.heap.size, 0, none⟩) n n, .int .i64 0] 143))
       have h3 := BL.new' (w1.alloc (.cells (madeCells #[Value.int .i64 0] n) 3)) #[.int .i64 (n : Int), .slice A es.length c, .int .i64 q, .slice (some ⟨gd, 0, none⟩) n cap, .slice (some ⟨w1.heap.size, 0, none⟩) n n, .int .i64 0] 143
       rw [World.size_alloc] at h3
       have hgl := (ho.out.1.lt gd rfl).2
       have hs : W0.heap.size ≤ w1.heap.size := hb.out.size
       exact ⟨⟨gd, cap, w1.heap.size, n, h3, OV.mono h1 (by simp; omega), OV.mono h2 (by omega), by omega, by omega, HDL.out, by simp⟩, ((((hbb.drew).trans (hb.out.mono (by simp; omega))).alloc (by omega) _).alloc (by simp; omega) _)⟩)
    | (refine ⟨w1.heap.size, _, rfl, rfl, ?_⟩
       have h1 := OI.below ho.out (below_alloc w1 (.cells #[.int .i64 (n : Int), .slice A es.length c, .int .i64 q, .slice (some ⟨gd, 0, none⟩) n cap, .slice (some ⟨W0.heap.size, 0, none⟩) n n, .int .i64 0] 143))
       have hm : OI (W0.alloc (.cells (madeCells #[Value.int .i64 0] n) 3)).drew W0.heap.size (.slice (some ⟨W0.heap.size, 0, none⟩) n n) (List.replicate n 0) := HMZ.out W0
       have h2 := OI.below (OI.below hm hb.out) (below_alloc w1 (.cells #[.int .i64 (n : Int), .slice A es.length c, .int .i64 q, .slice (some ⟨gd, 0, none⟩) n cap, .slice (some ⟨W0.heap.size, 0, none⟩) n n, .int .i64 0] 143))
       have h3 := BL.new' w1 #[.int .i64 (n : Int), .slice A es.length c, .int .i64 q, .slice (some ⟨gd, 0, none⟩) n cap, .slice (some ⟨W0.heap.size, 0, none⟩) n n, .int .i64 0] 143
       have hgl := (ho.out.1.lt gd rfl).1
       simp only [World.size_drew, World.size_alloc] at hgl
       have hs := hb.out.size
       simp only [World.size_drew, World.size_alloc] at hs
       exact ⟨⟨gd, cap, W0.heap.size, n, h3, OV.mono h1 (by simp; omega), OV.mono h2 (by omega), by omega, by omega, HDL.out, by simp⟩, (((hbb.alloc (by omega) _).drew.trans (hb.out.mono (by simp; omega))).alloc (by omega) _)⟩)
end Go.Proofs.YtefggpdobjboeaaGreat

namespace Go.Proofs.YtefggpdobjboeaaGreat
open Go.RowKit

/-- The greatest of the first k + 1. -/
def maxTo (zs : List Int) : Nat → Int
  | 0 => zs.getD 0 0
  | k + 1 => if maxTo zs k < zs.getD (k + 1) 0 then zs.getD (k + 1) 0 else maxTo zs k
def minTo (zs : List Int) : Nat → Int
  | 0 => zs.getD 0 0
  | k + 1 => if zs.getD (k + 1) 0 < minTo zs k then zs.getD (k + 1) 0 else minTo zs k
theorem maxTo_ge (zs : List Int) (k : Nat) : ∀ j, j ≤ k → zs.getD j 0 ≤ maxTo zs k := by
  induction k with
  | zero => intro j hj; rw [show j = 0 by omega]; exact Int.le_refl _
  | succ k ih =>
    intro j hj
    rcases Nat.lt_or_ge j (k + 1) with c | c
    · have := ih j (by omega); simp only [maxTo]; split <;> omega
    · obtain rfl : j = k + 1 := by omega
      simp only [maxTo]; split <;> omega
theorem maxTo_is (zs : List Int) (k : Nat) : ∃ j, j ≤ k ∧ maxTo zs k = zs.getD j 0 := by
  induction k with
  | zero => exact ⟨0, Nat.le_refl _, rfl⟩
  | succ k ih =>
    simp only [maxTo]; split
    · exact ⟨k + 1, Nat.le_refl _, rfl⟩
    · obtain ⟨j, hj, he⟩ := ih; exact ⟨j, by omega, he⟩
theorem minTo_le (zs : List Int) (k : Nat) : ∀ j, j ≤ k → minTo zs k ≤ zs.getD j 0 := by
  induction k with
  | zero => intro j hj; rw [show j = 0 by omega]; exact Int.le_refl _
  | succ k ih =>
    intro j hj
    rcases Nat.lt_or_ge j (k + 1) with c | c
    · have := ih j (by omega); simp only [minTo]; split <;> omega
    · obtain rfl : j = k + 1 := by omega
      simp only [minTo]; split <;> omega
theorem minTo_is (zs : List Int) (k : Nat) : ∃ j, j ≤ k ∧ minTo zs k = zs.getD j 0 := by
  induction k with
  | zero => exact ⟨0, Nat.le_refl _, rfl⟩
  | succ k ih =>
    simp only [minTo]; split
    · exact ⟨k + 1, Nat.le_refl _, rfl⟩
    · obtain ⟨j, hj, he⟩ := ih; exact ⟨j, by omega, he⟩
theorem run_max2z {P : Program} (ts : Array TypeId) (t : TypeId) (k : IntKind) (x y : Int) (w : World) : (Builtin.max_ ts t #[.int k x, .int k y]).run P w = .ok (.int k (if x < y then y else x)) w := by
  simp [Builtin.max_, Builtin.max2]
theorem run_min2z {P : Program} (ts : Array TypeId) (t : TypeId) (k : IntKind) (x y : Int) (w : World) : (Builtin.min_ ts t #[.int k x, .int k y]).run P w = .ok (.int k (if y < x then y else x)) w := by
  simp [Builtin.min_, Builtin.min2]
set_option maxHeartbeats 1000000 in
theorem Max_any (va : Value) (xs : List Int) (w : World) (ha : RI w va xs) (hn : 0 < xs.length) :
    Calls Tryz.prog 114 #[va] w fun e w' => e = .returned (.int .i64 (maxTo xs (xs.length - 1))) ∧ w = w' := by
  obtain ⟨A, c, rfl, hlc, hc, hcell⟩ := ha.open_
  obtain ⟨ad, z, rfl, _, hz, hcl⟩ := hcell 0 hn
  have HA := Lib.hid hcell
  have hz0 : Hid (z = maxTo xs 0) := by show _ = _; simp [maxTo, List.getD_eq_getElem?_getD, hz.out]
  have hcl0 : w.cell? ad = some (.int .i64 z) := by rw [← hcl]; congr 1
  clear hcell ha hz
  go_enter Tryz.func114, Tryz.ntmps114
  go_wp2
  go_loopw [3, 4] (fun m i wr => ∃ k : Nat, 1 ≤ k ∧ k ≤ xs.length ∧ m = .int .i64 (maxTo xs (k - 1)) ∧ i = .int .i64 (k : Int) ∧ wr = w) (fun _ i _ => xs.length - (intOf i).toNat)
  case atStart => exact ⟨1, Nat.le_refl _, hn, by rw [hz0.out], rfl, rfl⟩
  case round =>
    obtain ⟨k, hk1, hk, rfl, rfl, rfl⟩ := hrel
    by_cases hlt : k < xs.length
    · obtain ⟨ad', z', hA, _, hz', hcl'⟩ := HA.out k hlt
      obtain rfl := Option.some.inj hA
      obtain ⟨mm, hmm⟩ : ∃ mm, mm = maxTo xs (k - 1) := ⟨_, rfl⟩
      have hmx := fun W => run_max2z (P := Tryz.prog) #[3, 3] 3 .i64 mm z' W
      have HM : Hid ((if mm < z' then z' else mm) = maxTo xs k) := by
        obtain ⟨j, rfl⟩ : ∃ j, k = j + 1 := ⟨k - 1, by omega⟩
        show _ = _
        rw [hmm]
        simp [maxTo, List.getD_eq_getElem?_getD, hz'.out]
      rw [HM.out] at hmx
      rw [← hmm]
      clear hz' hA hmm
      go_wp2
      go_roundw
      case rel => exact ⟨k + 1, by omega, by omega, by simp, by go_num, by trivial⟩
      case measure => simp [intOf]; omega
    · have hke : Hid (k = xs.length) := by show _ = _; omega
      go_wp2
      go_ret
      exact ⟨by rw [← hke.out]; rfl, rfl⟩
set_option maxHeartbeats 1000000 in
theorem MinS_any (va : Value) (xs : List Int) (w : World) (ha : RI w va xs) (hn : 0 < xs.length) :
    Calls Tryz.prog 81 #[va] w fun e w' => e = .returned (.int .i64 (minTo xs (xs.length - 1))) ∧ w = w' := by
  obtain ⟨A, c, rfl, hlc, hc, hcell⟩ := ha.open_
  obtain ⟨ad, z, rfl, _, hz, hcl⟩ := hcell 0 hn
  have HA := Lib.hid hcell
  have hz0 : Hid (z = minTo xs 0) := by show _ = _; simp [minTo, List.getD_eq_getElem?_getD, hz.out]
  have hcl0 : w.cell? ad = some (.int .i64 z) := by rw [← hcl]; congr 1
  clear hcell ha hz
  go_enter Tryz.func81, Tryz.ntmps81
  go_wp2
  go_loopw [3, 4] (fun m i wr => ∃ k : Nat, 1 ≤ k ∧ k ≤ xs.length ∧ m = .int .i64 (minTo xs (k - 1)) ∧ i = .int .i64 (k : Int) ∧ wr = w) (fun _ i _ => xs.length - (intOf i).toNat)
  case atStart => exact ⟨1, Nat.le_refl _, hn, by rw [hz0.out], rfl, rfl⟩
  case round =>
    obtain ⟨k, hk1, hk, rfl, rfl, rfl⟩ := hrel
    by_cases hlt : k < xs.length
    · obtain ⟨ad', z', hA, _, hz', hcl'⟩ := HA.out k hlt
      obtain rfl := Option.some.inj hA
      obtain ⟨mm, hmm⟩ : ∃ mm, mm = minTo xs (k - 1) := ⟨_, rfl⟩
      have hmx := fun W => run_min2z (P := Tryz.prog) #[3, 3] 3 .i64 mm z' W
      have HM : Hid ((if z' < mm then z' else mm) = minTo xs k) := by
        obtain ⟨j, rfl⟩ : ∃ j, k = j + 1 := ⟨k - 1, by omega⟩
        show _ = _
        rw [hmm]
        simp [minTo, List.getD_eq_getElem?_getD, hz'.out]
      rw [HM.out] at hmx
      rw [← hmm]
      clear hz' hA hmm
      go_wp2
      go_roundw
      case rel => exact ⟨k + 1, by omega, by omega, by simp, by go_num, by trivial⟩
      case measure => simp [intOf]; omega
    · have hke : Hid (k = xs.length) := by show _ = _; omega
      go_wp2
      go_ret
      exact ⟨by rw [← hke.out]; rfl, rfl⟩
end Go.Proofs.YtefggpdobjboeaaGreat

namespace Go.Proofs.YtefggpdobjboeaaGreat
open Go.RowKit Go.Shelf

/-- The first error of some divisors. -/
def firstE (n : Int) : List (List Int) → Int
  | [] => 0
  | zs :: r => if checkE zs n ≠ 0 then checkE zs n else firstE n r
def eGiven (n : Int) (es : List Tri) (l : List (List Int)) : Int := if gcheckE n es ≠ 0 then gcheckE n es else if connB n es = false then 13 else firstE n l
set_option maxHeartbeats 2000000 in
theorem eGiven_any (g lv : Value) (n : Int) (es : List Tri) (l : List (List Int)) (w : World) (hg : GV w g n es) (hl : RR w lv l) :
    Calls Tryz.prog 38 #[g, lv] w fun e w' => e = .returned (.int .i64 (eGiven n es l)) ∧ Below w.heap.size w w' := by
  obtain ⟨A, c, rfl, hlc, hc, -⟩ := hg.open_
  obtain ⟨A2, c2, rfl, -, hlb, -⟩ := hl.open_
  have HB0 := Lib.hid (below_alloc w (.cells #[.int .i64 n, .slice A es.length c] 24))
  have HG := Lib.hid (hg.below HB0.out)
  have HL := Lib.hid (hl.below HB0.out)
  have HBL := Lib.hid (BL.new' w #[.int .i64 n, .slice A es.length c] 24)
  have HC := Lib.hid (Connected_any _ n es _ HG.out)
  clear hg hl
  by_cases h0 : gcheckE n es = 0
  · have HE : Hid (connL n es = connB n es) := by show _ = _; simp [connL, h0]
    rw [h0, HE.out] at HC
    have H0 := Lib.hid h0
    clear h0
    cases hcb : connB n es
    · rw [hcb] at HC
      go_enter Tryz.func38, Tryz.ntmps38
      go_wp2_with fail
      refine HC.out.mono ?_
      rintro e w1 ⟨rfl, hb⟩
      have HB := Lib.hid (HB0.out.trans (hb.mono (by simp)))
      clear hb
      go_wp2
      go_ret
      exact ⟨ret_i (by simp [eGiven, H0.out, hcb]), HB.out⟩
    · rw [hcb] at HC
      go_enter Tryz.func38, Tryz.ntmps38
      go_wp2_with fail
      refine HC.out.mono ?_
      rintro e w1 ⟨rfl, hb⟩
      have c0 : w1.cell? ⟨w.heap.size, 0, none⟩ = some (.int .i64 n) := (HBL.out.bel hb).cell 0
      have HL1 := Lib.hid (HL.out.below hb)
      have HB := Lib.hid (HB0.out.trans (hb.mono (by simp)))
      clear hb
      go_wp2
      go_loop [22] (fun i => ∃ k : Nat, k ≤ l.length ∧ i = .int .i64 (k : Int) ∧ Hid (firstE n (l.drop k) = firstE n l)) (fun i => l.length - (intOf i).toNat)
      case atStart => exact ⟨0, Nat.zero_le _, rfl, rfl⟩
      case round =>
        obtain ⟨k, hk, rfl, hr⟩ := hrel
        obtain ⟨A3, c3, he3, -, -, hcell⟩ := HL1.out.open_
        simp only [Value.slice.injEq, true_and] at he3
        obtain ⟨rfl, rfl⟩ := he3
        by_cases hlt : k < l.length
        · obtain ⟨ad, zs, A1, c1, rfl, hbl, hz, hcl, hri⟩ := hcell k hlt
          have HCk := Lib.hid (check_any _ zs n w1 hri)
          have HD := Lib.hid (drop_at hz)
          clear hcell hri
          by_cases hzc : checkE zs n = 0
          · rw [hzc] at HCk
            have HZ := Lib.hid hzc
            clear hzc
            go_wp2_with fail
            refine HCk.out.mono ?_
            rintro e w2 ⟨rfl, rfl⟩
            go_wp2
            go_round
            case rel => exact ⟨k + 1, by omega, by go_num, by have := hr.out; rw [HD.out] at this; simpa [Hid, firstE, HZ.out] using this⟩
            case measure => simp [intOf]; omega
          · have HZ := Lib.hid hzc
            have hne : (checkE zs n != 0) = true := by simpa using hzc
            obtain ⟨ce, hce⟩ : ∃ ce, ce = checkE zs n := ⟨_, rfl⟩
            rw [← hce] at HCk HZ hne
            have HCE := Lib.hid hce
            have hcn : ¬ ce = 0 := HZ.out
            clear hzc hce
            go_wp2_with fail
            refine HCk.out.mono ?_
            rintro e w2 ⟨rfl, rfl⟩
            go_wp2
            go_ret
            have h := hr.out
            rw [HD.out] at h
            simp only [firstE] at h
            rw [if_pos (by rw [← HCE.out]; exact HZ.out), ← HCE.out] at h
            exact ⟨ret_i (by simp [eGiven, H0.out, hcb, ← h]), HB.out⟩
        · go_wp2
          go_ret
          have h := hr.out
          rw [List.drop_of_length_le (by omega)] at h
          exact ⟨ret_i (by simp [eGiven, H0.out, hcb, ← h, firstE]), HB.out⟩
  · have hne : (gcheckE n es != 0) = true := by simpa using h0
    have H0 := Lib.hid h0
    obtain ⟨ge, hge⟩ : ∃ ge, ge = gcheckE n es := ⟨_, rfl⟩
    rw [← hge] at HC hne h0
    have HGE := Lib.hid hge
    generalize connL n es = cl at *
    clear hge
    go_enter Tryz.func38, Tryz.ntmps38
    go_wp2_with fail
    refine HC.out.mono ?_
    rintro e w1 ⟨rfl, hb⟩
    have HB := Lib.hid (HB0.out.trans (hb.mono (by simp)))
    clear hb
    go_wp2
    go_ret
    exact ⟨ret_i (by simp [eGiven, H0.out, HGE.out]), HB.out⟩
/-- A function value that computes F on pairs of ints in D. -/
def CloD (P : Program) (w : World) (fv : Value) (D : Int → Int → Prop) (F : Int → Int → Int) : Prop :=
  ∃ fn caps, fv = .func (.func fn) #[] caps ∧ (∀ args W, (callFunc fn args).run P W = .ok (.enter fn args) W) ∧ ∀ W, Below w.heap.size w W → ∀ x y, D x y → Calls P fn (#[.int .i64 x, .int .i64 y] ++ caps) W fun e w' => e = .returned (.int .i64 (F x y)) ∧ W = w'
def Mid (x y : Int) : Prop := -10000000 ≤ x ∧ x ≤ 10000000 ∧ -10000000 ≤ y ∧ y ≤ 10000000
theorem subD_clo (w : World) : CloD Tryz.prog w (.func (.func 42) #[] #[]) Mid (fun x y => x - y) :=
  ⟨_, _, rfl, enters_of Tryz.func42 (by kernel_rfl) rfl, fun W hW x y ⟨h1, h2, h3, h4⟩ => by
    have hw : IntKind.i64.wrap (x - y) = x - y := IntWalk.i64_in _ (by omega)
    clear h1 h2 h3 h4
    go_enter Tryz.func42, Tryz.ntmps42
    go_wp2
    go_ret
    exact ⟨rfl, rfl⟩⟩
theorem lessD_clo (w : World) (hb : Nat) (m : Int) (h : BL w hb 3 [.int .i64 m]) (hm : -10000000 ≤ m ∧ m ≤ 10000000) : CloD Tryz.prog w (.func (.func 82) #[] #[.pointer (some ⟨hb, 0, none⟩)]) Mid (fun x _ => x - m) :=
  ⟨_, _, rfl, enters_of Tryz.func82 (by kernel_rfl) rfl, fun W hW x y ⟨h1, h2, h3, h4⟩ => by
    have hw : IntKind.i64.wrap (x - m) = x - m := IntWalk.i64_in _ (by omega)
    have c0 := (h.bel hW).cell 0
    clear h1 h2 h3 h4 h hm
    go_enter Tryz.func82, Tryz.ntmps82
    go_wp2
    go_ret
    exact ⟨rfl, rfl⟩⟩
end Go.Proofs.YtefggpdobjboeaaGreat

namespace Go.Proofs.YtefggpdobjboeaaGreat
open Go.RowKit Go.Shelf

set_option maxRecDepth 100000 in
set_option maxHeartbeats 2000000 in
theorem eachS_any (va vb fv : Value) (xs ys : List Int) (D : Int → Int → Prop) (F : Int → Int → Int) (w : World) (ha : RI w va xs) (hb : RI w vb ys) (hl : xs.length = ys.length) (h100 : xs.length ≤ 100)
    (hD : ∀ k, k < xs.length → D (xs.getD k 0) (ys.getD k 0)) (hf : CloD Tryz.prog w fv D F) :
    Calls Tryz.prog 41 #[va, vb, fv] w fun e w' => ∃ v, e = .returned v ∧ OI w' w.heap.size v (List.zipWith F xs ys) ∧ Below w.heap.size w w' := by
  obtain ⟨A, c, rfl, hlc, hc, hcell⟩ := ha.open_
  obtain ⟨A', c', rfl, hlc', hc', hcell'⟩ := hb.open_
  obtain ⟨fn, caps, rfl, hen, hcall⟩ := hf
  have hmk := run_make_row' (P := Tryz.prog) 29 3 (.int .i64 0) 8 Tryz.underlying29 int_info rfl .i64 .i64 xs.length (by omega) (by omega)
  have HA := Lib.hid hcell
  have HB := Lib.hid hcell'
  have HF := Lib.hid hcall
  have HDD := Lib.hid hD
  have hown := own_zeros w xs.length (by omega)
  have hb1 : Below w.heap.size w (w.alloc (.cells (madeCells #[Value.int .i64 0] xs.length) 3)) := below_alloc w _
  have HO0 := Lib.hid hown
  have HB1 := Lib.hid hb1
  have HL := Lib.hid hl
  clear hcell hcell' hcall ha hb hD hown hb1 hl
  go_enter Tryz.func41, Tryz.ntmps41
  go_wp2_with fail
  clear hmk
  go_loopw [14] (fun i wr => ∃ (k : Nat) (os : List Int), k ≤ xs.length ∧ i = .int .i64 (k : Int) ∧ Hid (os.length = xs.length) ∧ Hid (os.take k = (List.zipWith F xs ys).take k) ∧
    Hid (OI wr w.heap.size (.slice (some ⟨w.heap.size, 0, none⟩) xs.length xs.length) os) ∧ Hid (Below w.heap.size w wr)) (fun i _ => xs.length - (intOf i).toNat)
  case atStart => exact ⟨0, List.replicate xs.length 0, Nat.zero_le _, rfl, by simp [Hid], by simp [Hid], HO0.out, HB1.out⟩
  case round =>
    obtain ⟨k, os, hk, rfl, ho1, ho2, hown, hbel⟩ := hrel
    by_cases hlt : k < xs.length
    · obtain ⟨ad, z, rfl, hadb, hz, hcl⟩ := HA.out k hlt
      obtain ⟨ad', z', rfl, hadb', hz', hcl'⟩ := HB.out k (by have := HL.out; omega)
      have hc1 : wr.cell? (ad.add k) = some (.int .i64 z) := (hbel.out.cell (by rw [block_of_add]; exact hadb)).trans hcl
      have hc2 : wr.cell? (ad'.add k) = some (.int .i64 z') := (hbel.out.cell (by rw [block_of_add]; exact hadb')).trans hcl'
      have hlt' : k < ys.length := by have := HL.out; omega
      have hDz : D z z' := by
        have := HDD.out k hlt
        rwa [List.getD_eq_getElem?_getD, List.getD_eq_getElem?_getD, hz.out, hz'.out] at this
      obtain ⟨-, -, e1, f1, est⟩ := OI.at' hown.out (k := k) (by have := ho1.out; omega)
      have hset := (est (F z z')).1
      have HS := Lib.hid hset
      have HDz := Lib.hid hDz
      have hz1 : (List.zipWith F xs ys)[k]? = some (F z z') := by rw [List.getElem?_zipWith, hz.out, hz'.out]
      have HZ := Lib.hid hz1
      clear hset est hDz hz1 hcl hcl'
      generalize os.getD k 0 = ok at *
      go_wp2_with fail
      refine wp_region_still_tail 13 (by kernel_rfl) (by kernel_rfl) ?_
      change wpStill _ _ wr.drew _ _ _
      simp only [List.take_succ_cons, List.take_zero, List.drop_succ_cons, List.drop_zero]
      repeat still_step
      still_call ((HF.out wr.drew hbel.out.drew z z' HDz.out).mono fun _ _ h => ⟨h.1, h.2.symm⟩)
      repeat still_step
      refine wpStill_nil ?_
      change wpList _ _ _ _ _ wr.drew
      go_wp2
      go_roundw
      case rel => exact ⟨k + 1, os.set k (F z z'), by omega, by go_num, by simpa [Hid] using ho1.out, by
        show List.take (k + 1) (os.set k (F z z')) = _
        rw [List.take_add_one, List.take_add_one, List.take_set_of_le (Nat.le_refl _), ho2.out, HZ.out, List.getElem?_set_self (by have := ho1.out; omega)], HS.out.below (Below.refl _ _).drew, (hbel.out.setCell (p := ⟨w.heap.size, k, none⟩) (by simp) _).drew⟩
      case measure => simp [intOf]; omega
    · obtain rfl : k = xs.length := by omega
      go_wp2
      go_ret
      have e : os = List.zipWith F xs ys := by
        have h := ho2.out
        rwa [List.take_of_length_le (by have := ho1.out; omega), List.take_of_length_le (by have := HL.out; simp; omega)] at h
      subst e
      exact ⟨_, rfl, hown.out, hbel.out⟩
/-- The least script with the same effect. -/
def leastL (s : List Int) : List Int := if s = [] then [] else s.map fun x => x - minTo s (s.length - 1)
set_option maxRecDepth 100000 in
set_option maxHeartbeats 2000000 in
theorem least_any (v : Value) (s : List Int) (w : World) (hv : RI w v s) (hl : s.length ≤ 100) (hb : Bd 10000000 s) :
    Calls Tryz.prog 40 #[v] w fun e w' => ∃ v', e = .returned v' ∧ OI w' w.heap.size v' (leastL s) ∧ Below w.heap.size w w' := by
  obtain ⟨A, c, rfl, hlc, hc, -⟩ := hv.open_
  by_cases h0 : s.length = 0
  · have hs : s = [] := List.eq_nil_of_length_eq_zero h0
    subst hs
    clear hv hb
    go_enter Tryz.func40, Tryz.ntmps40
    go_wp2
    go_ret
    exact ⟨_, rfl, OI.nil_ _ _, Below.refl _ _⟩
  · have HMi := Lib.hid (MinS_any _ s w hv (by omega))
    obtain ⟨m, hm⟩ : ∃ m, m = minTo s (s.length - 1) := ⟨_, rfl⟩
    have hmb : -10000000 ≤ m ∧ m ≤ 10000000 := by
      obtain ⟨j, -, he⟩ := minTo_is s (s.length - 1)
      rw [hm, he]; exact hb j
    rw [← hm] at HMi
    have hbl := BL.new' w #[.int .i64 m] 3
    have HE := Lib.hid (eachS_any _ _ _ s s Mid _ (w.alloc (.cells #[.int .i64 m] 3)) (hv.below (below_alloc w _)) (hv.below (below_alloc w _)) rfl hl (fun k _ => ⟨(hb k).1, (hb k).2, (hb k).1, (hb k).2⟩) (lessD_clo _ w.heap.size m hbl hmb))
    have HL : Hid (List.zipWith (fun x _ => x - m) s s = leastL s) := by
      show _ = _
      have hne : s ≠ [] := by intro e; subst e; simp at h0
      have key : ∀ l : List Int, List.zipWith (fun x _ => x - m) l l = l.map fun x => x - m := fun l => by
        induction l with
        | nil => rfl
        | cons x r ih => simp only [List.zipWith_cons_cons, List.map_cons, ih]
      unfold leastL
      rw [if_neg hne, ← hm, key]
    have hne : (s.length == 0) = false := by simpa using h0
    clear hv hb hbl hm
    go_enter Tryz.func40, Tryz.ntmps40
    go_wp2_with fail
    refine HMi.out.mono ?_
    rintro e w1 ⟨rfl, rfl⟩
    go_wp2_with fail
    refine HE.out.mono ?_
    rintro e w2 ⟨v', rfl, ho, hb2⟩
    have HO := Lib.hid ho
    have HB2 := Lib.hid hb2
    clear ho hb2
    go_wp2
    go_ret
    refine ⟨_, rfl, ?_, (below_alloc w _).trans (HB2.out.mono (by simp))⟩
    rw [← HL.out]
    exact OV.mono HO.out (by simp)
end Go.Proofs.YtefggpdobjboeaaGreat

namespace Go.Proofs.YtefggpdobjboeaaGreat
open Go.RowKit Go.Shelf

theorem bools_at {w : World} {B g n cap : Nat} {bs : List Bool} (h : OV w B 4 (.slice (some ⟨g, 0, none⟩) n cap) (bs.map Value.bool)) (hl : bs.length = n) {k : Nat} (hk : k < n) :
    w.cell? ⟨g, k, none⟩ = some (.bool (bs.getD k false)) ∧ w.frozen? ⟨g, k, none⟩ = false ∧ ∀ x : Bool, OV (w.setCell ⟨g, k, none⟩ (.bool x)) B 4 (.slice (some ⟨g, 0, none⟩) n cap) ((bs.set k x).map Value.bool) ∧ w.grownBy (w.setCell ⟨g, k, none⟩ (.bool x)) (some g) := by
  have hb : (bs.map Value.bool)[k]? = some (.bool (bs.getD k false)) := by
    rw [List.getElem?_map, List.getD_eq_getElem?_getD, List.getElem?_eq_getElem (by omega)]; rfl
  obtain ⟨g', cap', hv, -, -, h1, h2, h3⟩ := h.at_ hb
  simp only [Value.slice.injEq, Option.some.injEq, Addr.mk.injEq, and_true] at hv
  obtain ⟨rfl, hn, rfl⟩ := hv
  refine ⟨h1, h2, fun x => ?_⟩
  have := h3 (.bool x)
  rw [← hn, ← List.map_set] at this
  exact this
theorem isB_clo (w : World) (hb B g n cap : Nat) (bs : List Bool) (h1 : BL w hb 147 [.slice (some ⟨g, 0, none⟩) n cap]) (h2 : OV w B 4 (.slice (some ⟨g, 0, none⟩) n cap) (bs.map Value.bool)) (hl : bs.length = n) :
    CloB Tryz.prog w (.func (.func 156) #[] #[.pointer (some ⟨hb, 0, none⟩)]) (fun u => 0 ≤ u ∧ u < n) (fun u => bs.getD u.toNat false) :=
  ⟨_, _, rfl, enters_of Tryz.func156 (by kernel_rfl) rfl, fun W hW x hx => by
    obtain ⟨k, rfl⟩ := Int.eq_ofNat_of_zero_le hx.1
    have hk : k < n := by omega
    have c0 := (h1.bel hW).cell 0
    have c1 := (bools_at (h2.below hW) hl hk).1
    obtain ⟨y, hy⟩ : ∃ y, y = bs.getD k false := ⟨_, rfl⟩
    rw [← hy] at c1
    have HY := Lib.hid hy
    clear hy
    show Calls _ _ #[.int .i64 (k : Int), .pointer (some ⟨hb, 0, none⟩)] _ _
    go_enter Tryz.func156, Tryz.ntmps156
    go_wp2
    go_ret
    exact ⟨ret_b (by rw [HY.out]; simp only [Int.toNat_natCast]), rfl⟩⟩
theorem near_clo (w : World) (hb B g n cap : Nat) (bs : List Bool) (h1 : BL w hb 147 [.slice (some ⟨g, 0, none⟩) n cap]) (h2 : OV w B 4 (.slice (some ⟨g, 0, none⟩) n cap) (bs.map Value.bool)) (hl : bs.length = n) :
    CloB Tryz.prog w (.func (.func 116) #[] #[.pointer (some ⟨hb, 0, none⟩)]) (fun u => 0 ≤ u ∧ u < n) (fun u => bs.getD u.toNat false) :=
  ⟨_, _, rfl, enters_of Tryz.func116 (by kernel_rfl) rfl, fun W hW x hx => by
    obtain ⟨k, rfl⟩ := Int.eq_ofNat_of_zero_le hx.1
    have hk : k < n := by omega
    have c0 := (h1.bel hW).cell 0
    have c1 := (bools_at (h2.below hW) hl hk).1
    obtain ⟨y, hy⟩ : ∃ y, y = bs.getD k false := ⟨_, rfl⟩
    rw [← hy] at c1
    have HY := Lib.hid hy
    clear hy
    show Calls _ _ #[.int .i64 (k : Int), .pointer (some ⟨hb, 0, none⟩)] _ _
    go_enter Tryz.func116, Tryz.ntmps116
    go_wp2
    go_ret
    exact ⟨ret_b (by rw [HY.out]; simp only [Int.toNat_natCast]), rfl⟩⟩
theorem left_clo (w : World) (hb B g n cap : Nat) (bs : List Bool) (h1 : BL w hb 147 [.slice (some ⟨g, 0, none⟩) n cap]) (h2 : OV w B 4 (.slice (some ⟨g, 0, none⟩) n cap) (bs.map Value.bool)) (hl : bs.length = n) :
    CloB Tryz.prog w (.func (.func 118) #[] #[.pointer (some ⟨hb, 0, none⟩)]) (fun u => 0 ≤ u ∧ u < n) (fun u => !bs.getD u.toNat false) :=
  ⟨_, _, rfl, enters_of Tryz.func118 (by kernel_rfl) rfl, fun W hW x hx => by
    obtain ⟨k, rfl⟩ := Int.eq_ofNat_of_zero_le hx.1
    have hk : k < n := by omega
    have c0 := (h1.bel hW).cell 0
    have c1 := (bools_at (h2.below hW) hl hk).1
    obtain ⟨y, hy⟩ : ∃ y, y = bs.getD k false := ⟨_, rfl⟩
    rw [← hy] at c1
    have HY := Lib.hid hy
    clear hy
    show Calls _ _ #[.int .i64 (k : Int), .pointer (some ⟨hb, 0, none⟩)] _ _
    go_enter Tryz.func118, Tryz.ntmps118
    go_wp2
    go_ret
    exact ⟨ret_b (by rw [HY.out]; simp only [Int.toNat_natCast]), rfl⟩⟩
end Go.Proofs.YtefggpdobjboeaaGreat
