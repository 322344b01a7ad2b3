/- Contracts of laplacian.Cofactor and Trees.
   Every class modulo the reduced Laplacian has a tight vector, and one alone: they are as many as the determinant says (plain).
   The leading minors of a connected graph's reduced Laplacian are positive (plain).
   FewTrees of the reference. (rSmallT_any: printed from R08C)
   Lending where the entry at q is larger. (printed by gen/redq.py) -/
import Derived.Test.YtjfggodnfoknfaaGreatDoorM31
set_option maxRecDepth 100000
set_option maxHeartbeats 16000000
namespace Go.Proofs.YtjfggodnfoknfaaGreatDoor
open Go.RowKit
/-- The number of spanning trees, as a determinant. -/
def treeN (m : Nat) (es : List Tri) : Int := detN m (redT (m + 1) (wgt es) 0)
theorem minL_len (m : Nat) (zs : List Int) : (minL m zs).length = m * m := tabL_len _ _
theorem minL_get {m : Nat} {zs : List Int} {f : Nat → Nat → Int} (h : CVz (m + 1) zs f) {i j : Nat} (hi : i < m) (hj : j < m) : (minL m zs).getD (i * m + j) 0 = f (i + 1) (j + 1) := by
  have hlt := idx_lt hi hj
  have h1 : (i * m + j) / m = i := by rw [Nat.mul_comm, Nat.mul_add_div (by omega), Nat.div_eq_of_lt hj]; rfl
  have h2 : (i * m + j) % m = j := by rw [Nat.mul_comm, Nat.mul_add_mod, Nat.mod_eq_of_lt hj]
  unfold minL tabL
  rw [List.getD_eq_getElem?_getD, List.getElem?_map, List.getElem?_range hlt]
  show zs.getD (((i * m + j) / m + 1) * (m + 1) + ((i * m + j) % m + 1)) 0 = _
  rw [h1, h2, h.2 _ _ (by omega) (by omega)]
theorem minL_bd {m : Nat} {zs : List Int} {f : Nat → Nat → Int} (h : CVz (m + 1) zs f) (hf : ∀ i j, (f i j).natAbs ≤ 8) (j : Nat) : ((minL m zs).getD j 0).natAbs ≤ 8 := by
  by_cases hj : j < m * m
  · have hm : 0 < m := by rcases Nat.eq_zero_or_pos m with h | h; (· subst h; simp at hj); (· exact h)
    have e : j = (j / m) * m + j % m := by rw [Nat.mul_comm]; exact (Nat.div_add_mod j m).symm
    rw [e, minL_get h (Nat.div_lt_of_lt_mul hj) (Nat.mod_lt _ hm)]
    exact hf _ _
  · rw [List.getD_eq_getElem?_getD, List.getElem?_eq_none (by rw [minL_len]; omega)]; simp
theorem minL_red {m : Nat} {zs : List Int} {es : List Tri} (hE : Edges (m + 1) es) (h : CVz (m + 1) zs (lpE (nonL es))) {i j : Nat} (hi : i < m) (hj : j < m) : (minL m zs).getD (i * m + j) 0 = redT (m + 1) (wgt es) 0 i j := by
  rw [minL_get h hi hj, lpE_lapT (n := m + 1) (fun t ht => by have := hE.lo t ht; omega)]
  unfold redT
  rw [show skip 0 i = i + 1 by unfold skip; simp, show skip 0 j = j + 1 by unfold skip; simp]
theorem cofactor_any (v : Value) (m : Nat) (es : List Tri) (w : World) (hg : GV w v ((m + 1 : Nat) : Int) es) (hE : Edges (m + 1) es) (hc : gcheckE ((m + 1 : Nat) : Int) es = 0) (hn : m ≤ 4) (hm : multS es ≤ 8) (hw : ∀ v u, 0 ≤ wgt es v u) (hcn : Conn (m + 1) (wgt es)) (ht : TB w) :
    Calls Tryz.prog 29 #[v, .int .i64 0, .int .i64 0] w fun e w' => e = .returned (.tuple #[zV (treeN m es), .int .i64 0]) ∧ Below w.heap.size w w' := by
  obtain ⟨A, c, rfl, -⟩ := hg.open_
  have hb0 := below_alloc w (.cells #[.int .i64 ((m + 1 : Nat) : Int), .slice A es.length c] 24)
  have HMi := Lib.hid (minorF_any (.agg #[.int .i64 ((m + 1 : Nat) : Int), .slice A es.length c]) m es (w.alloc (.cells #[.int .i64 ((m + 1 : Nat) : Int), .slice A es.length c] 24)) (hg.below hb0) hE hc hn (by omega) (ht.below hb0))
  have HDt : Hid (∀ (W : World) (zs : List Int) (A9 : Option Addr) (cap9 : Nat), Below w.heap.size w W → RV W (.slice A9 (minL m zs).length cap9) ((minL m zs).map zV) → CVz (m + 1) zs (lpE (nonL es)) → Calls Tryz.prog 55 #[.agg #[.int .i64 (m : Int), .int .i64 (m : Int), .slice A9 (minL m zs).length cap9]] W fun e w' => e = .returned (.tuple #[zV (treeN m es), .int .i64 0]) ∧ Below W.heap.size W w') := fun W zs A9 cap9 h0 h1 h2 => by
    have hd : ∀ k, k ≤ m → detN k (fun i j => (minL m zs).getD (i * m + j) 0) = detN k (redT (m + 1) (wgt es) 0) := fun k hk => detN_congr fun i j hi hj => minL_red hE h2 (by omega) (by omega)
    have := det_any (.agg #[.int .i64 (m : Int), .int .i64 (m : Int), .slice A9 (minL m zs).length cap9]) m (minL m zs) W ⟨A9, cap9, rfl, h1, minL_len _ _⟩ hn (minL_bd h2 fun i j => by
      have := lpE_bd (es := es) (fun t ht => by have := hE.mult t ht; omega) i j
      omega) (fun k hk => by
        rw [hd k hk]
        exact det_ne (redT_sym (wgt_sym es) 0) fun j hj => redT_inj hw hcn (by omega) (by omega)) (ht.below h0)
    rw [hd m (Nat.le_refl _)] at this
    exact this
  obtain ⟨S, hS⟩ : ∃ S, zV (treeN m es) = .string S := ⟨_, rfl⟩
  rw [hS] at HDt ⊢
  have HB0 := Lib.hid hb0
  generalize ((m + 1 : Nat) : Int) = n1 at *
  clear hg hE hc hn hm hw hcn ht hb0 hS
  go_enter Tryz.func29, Tryz.ntmps29
  go_wp2_with fail
  refine HMi.out.mono ?_
  rintro e w1 ⟨u, zs, rfl, ⟨A9, cap9, rfl, hr9, hl9⟩, hcv, hb1⟩
  have hb1' := HB0.out.trans (hb1.mono HB0.out.size)
  have ba := below_alloc w1 (.cells #[.int .i64 (m : Int), .int .i64 (m : Int), .slice A9 (minL m zs).length cap9] 84)
  have hb2 := hb1'.trans (ba.mono hb1'.size)
  have HD := Lib.hid (HDt.out _ zs A9 cap9 hb2 (hr9.below ba) hcv)
  have HB2 := Lib.hid hb2
  clear hr9 hl9 hcv hb1 hb1' ba hb2
  go_wp2_with fail
  refine HD.out.mono ?_
  rintro e w3 ⟨rfl, hb3⟩
  go_wp2
  go_ret2
  exact ⟨rfl, HB2.out.trans (hb3.mono HB2.out.size)⟩
theorem trees_any (v : Value) (m : Nat) (es : List Tri) (w : World) (hg : GV w v ((m + 1 : Nat) : Int) es) (hE : Edges (m + 1) es) (hc : gcheckE ((m + 1 : Nat) : Int) es = 0) (hn : m ≤ 4) (hm : multS es ≤ 8) (hw : ∀ v u, 0 ≤ wgt es v u) (hcn : Conn (m + 1) (wgt es)) (ht : TB w) :
    Calls Tryz.prog 9 #[v] w fun e w' => e = .returned (.tuple #[zV (treeN m es), .int .i64 0]) ∧ Below w.heap.size w w' := by
  obtain ⟨A, c, rfl, -⟩ := hg.open_
  have hb0 := below_alloc w (.cells #[.int .i64 ((m + 1 : Nat) : Int), .slice A es.length c] 24)
  have HC := Lib.hid (cofactor_any (.agg #[.int .i64 ((m + 1 : Nat) : Int), .slice A es.length c]) m es (w.alloc (.cells #[.int .i64 ((m + 1 : Nat) : Int), .slice A es.length c] 24)) (hg.below hb0) hE hc hn hm hw hcn (ht.below hb0))
  obtain ⟨S, hS⟩ : ∃ S, zV (treeN m es) = .string S := ⟨_, rfl⟩
  rw [hS] at HC ⊢
  have HB0 := Lib.hid hb0
  generalize ((m + 1 : Nat) : Int) = n1 at *
  clear hg hE hc hn hm hw hcn ht hb0 hS
  go_enter Tryz.func9, Tryz.ntmps9
  go_wp2_with fail
  refine HC.out.mono ?_
  rintro e w1 ⟨rfl, hb1⟩
  go_wp2
  go_ret2
  exact ⟨rfl, HB0.out.trans (hb1.mono HB0.out.size)⟩
end Go.Proofs.YtjfggodnfoknfaaGreatDoor

namespace Go.Proofs.YtjfggodnfoknfaaGreatDoor

theorem skip_zero (j : Nat) : skip 0 j = j + 1 := by unfold skip; simp
theorem redT_one {m : Nat} {w : Nat → Nat → Int} {s : Nat → Int} (h0 : s 0 = 0) {i : Nat} (hi : i < m) : (sumN m fun j => redT (m + 1) w 0 i j * s (j + 1)) = lap (m + 1) w s (i + 1) := by
  have h := redT_mul (w := w) (q := 0) (Nat.succ_pos m) h0 hi
  simp only [skip_zero] at h
  exact h
/-- The potential: what firing a part takes from it. -/
def potG (m : Nat) (w : Nat → Nat → Int) (i : Nat) : Int := detN m (redT (m + 1) w 0) * sumN m fun v => cof m (redT (m + 1) w 0) v i
theorem cof_row {m : Nat} {T : Nat → Nat → Int} (hs : Sym T) {v i : Nat} (hv : v < m) (hi : i < m) : (sumN m fun j => T i j * cof m T v j) = if v = i then detN m T else 0 := by
  rw [← cof_mul m T v i hv hi]
  exact sumN_congr fun j _ => by rw [hs i j]
theorem pot_mul {m : Nat} {w : Nat → Nat → Int} (hs : ∀ v u, w v u = w u v) {i : Nat} (hi : i < m) : (sumN m fun j => redT (m + 1) w 0 i j * potG m w j) = detN m (redT (m + 1) w 0) * detN m (redT (m + 1) w 0) := by
  have hS := redT_sym hs 0 (n := m + 1)
  have e : (sumN m fun j => redT (m + 1) w 0 i j * potG m w j) = detN m (redT (m + 1) w 0) * sumN m fun j => sumN m fun v => redT (m + 1) w 0 i j * cof m (redT (m + 1) w 0) v j := by
    rw [← sumN_mul]
    refine sumN_congr fun j _ => ?_
    unfold potG
    rw [sumN_mul]
    grind
  rw [e, sumN_swap]
  have e2 : (sumN m fun v => sumN m fun j => redT (m + 1) w 0 i j * cof m (redT (m + 1) w 0) v j) = detN m (redT (m + 1) w 0) := by
    rw [sumN_congr fun v hv => cof_row hS hv hi, sumN_one hi fun v _ hne => if_neg hne, if_pos rfl]
  rw [e2]
theorem pot_nonneg {m : Nat} {w : Nat → Nat → Int} (hw : ∀ v u, 0 ≤ w v u) (hs : ∀ v u, w v u = w u v) (hc : Conn (m + 1) w) {i : Nat} (hi : i < m) : 0 ≤ potG m w i := by
  obtain ⟨G, hG⟩ : ∃ G : Nat → Int, G = fun u => if u = 0 then 0 else potG m w (u - 1) := ⟨_, rfl⟩
  have hG0 : G 0 = 0 := by rw [hG]; rfl
  have hG1 : ∀ j, G (j + 1) = potG m w j := fun j => by rw [hG]; simp
  have hne := red_ne (n := m) hw hs hc (q := 0) (by omega)
  obtain ⟨v, hv, hmax⟩ := max_at (m + 1) (by omega) fun u => - G u
  have hD : 0 < detN m (redT (m + 1) w 0) * detN m (redT (m + 1) w 0) := by
    rcases Int.lt_or_gt_of_ne hne with h | h
    · exact Int.mul_pos_of_neg_of_neg h h
    · exact Int.mul_pos h h
  have hv0 : 0 ≤ G v := by
    apply Classical.byContradiction
    intro hneg
    obtain ⟨k, rfl⟩ : ∃ k, v = k + 1 := by
      cases v with
      | zero => rw [hG0] at hneg; omega
      | succ k => exact ⟨k, rfl⟩
    have h1 := redT_one (w := w) hG0 (show k < m by omega)
    have h2 : (sumN m fun j => redT (m + 1) w 0 k j * G (j + 1)) = detN m (redT (m + 1) w 0) * detN m (redT (m + 1) w 0) := by
      rw [← pot_mul hs (show k < m by omega)]
      exact sumN_congr fun j _ => by rw [hG1]
    have h3 : lap (m + 1) w G (k + 1) ≤ 0 := by
      unfold lap
      have : (sumN (m + 1) fun u => w (k + 1) u * (G (k + 1) - G u)) ≤ sumN (m + 1) fun _ => 0 := sumN_mono fun u hu => by
        have h4 := hmax u hu
        have h5 : G (k + 1) - G u ≤ 0 := by omega
        have := Int.mul_nonneg (hw (k + 1) u) (show 0 ≤ -(G (k + 1) - G u) by omega)
        rw [Int.mul_neg] at this
        omega
      rw [sumN_zero (fun _ _ => rfl) (f := fun _ => (0 : Int))] at this
      exact this
    omega
  have := hmax (i + 1) (by omega)
  rw [← hG1 i]
  omega
theorem cong_eq {n : Nat} {M : Nat → Nat → Int} {x y y' : Nat → Int} (h : Cong n M x y) (he : ∀ i, i < n → y i = y' i) : Cong n M x y' := by
  obtain ⟨c, h⟩ := h
  exact ⟨c, fun i hi => by rw [← he i hi]; exact h i hi⟩
/-- An effective vector in the class. -/
theorem eff_ex {m : Nat} {w : Nat → Nat → Int} (hw : ∀ v u, 0 ≤ w v u) (hs : ∀ v u, w v u = w u v) (hc : Conn (m + 1) w) (x : Nat → Int) : ∃ y : Nat → Int, (∀ i, i < m → 0 ≤ y i) ∧ Cong m (redT (m + 1) w 0) x y := by
  have hS := redT_sym hs 0 (n := m + 1)
  have hne := red_ne (n := m) hw hs hc (q := 0) (by omega)
  obtain ⟨D, hD⟩ : ∃ D, D = detN m (redT (m + 1) w 0) := ⟨_, rfl⟩
  rw [← hD] at hne
  refine ⟨fun i => x i + D * D * (x i).natAbs, fun i _ => ?_, fun j => - sumN m fun v => D * (x v).natAbs * cof m (redT (m + 1) w 0) v j, fun i hi => ?_⟩
  · have h1 : 1 ≤ D * D := by
      have : 0 < D * D := by
        rcases Int.lt_or_gt_of_ne hne with h | h
        · exact Int.mul_pos_of_neg_of_neg h h
        · exact Int.mul_pos h h
      omega
    have := Int.mul_le_mul_of_nonneg_right h1 (show (0 : Int) ≤ (x i).natAbs by omega)
    dsimp only
    omega
  · have e : (sumN m fun j => redT (m + 1) w 0 i j * - sumN m fun v => D * (x v).natAbs * cof m (redT (m + 1) w 0) v j) = - sumN m fun j => sumN m fun v => D * (x v).natAbs * (redT (m + 1) w 0 i j * cof m (redT (m + 1) w 0) v j) := by
      rw [← sumN_neg]
      refine sumN_congr fun j _ => ?_
      rw [Int.mul_neg, ← sumN_mul]
      congr 1
      exact sumN_congr fun v _ => by grind
    rw [e, sumN_swap]
    have e2 : (sumN m fun v => sumN m fun j => D * (x v).natAbs * (redT (m + 1) w 0 i j * cof m (redT (m + 1) w 0) v j)) = D * (x i).natAbs * D := by
      have e3 : ∀ v, v < m → (sumN m fun j => D * (x v).natAbs * (redT (m + 1) w 0 i j * cof m (redT (m + 1) w 0) v j)) = if v = i then D * (x v).natAbs * D else 0 := fun v hv => by
        rw [sumN_mul, cof_row hS hv hi, ← hD]
        split <;> simp
      rw [sumN_congr e3, sumN_one hi fun v _ hne => if_neg hne, if_pos rfl]
    rw [e2]
    dsimp only
    grind
/-- A tight vector in the class. -/
theorem tight_ex {m : Nat} {w : Nat → Nat → Int} (hw : ∀ v u, 0 ≤ w v u) (hs : ∀ v u, w v u = w u v) (hc : Conn (m + 1) w) (N : Nat) : ∀ c : Nat → Int, c 0 = 0 → (∀ v, v < m + 1 → 0 ≤ c v) → ((sumN m fun i => c (i + 1) * potG m w i).toNat = N) →
    ∃ d : Nat → Int, d 0 = 0 ∧ (∀ v, v < m + 1 → 0 ≤ d v) ∧ Tight (m + 1) w 0 d ∧ Cong m (redT (m + 1) w 0) (fun i => c (i + 1)) (fun i => d (i + 1)) := by
  induction N using Nat.strongRecOn with
  | ind N ih =>
    intro c h0 hcn hN
    by_cases ht : Tight (m + 1) w 0 c
    · exact ⟨c, h0, hcn, ht, Cong.refl _ _ _⟩
    · have hA : ∃ A : Nat → Bool, A 0 = false ∧ (∃ v, v < m + 1 ∧ A v = true) ∧ ∀ v, v < m + 1 → A v = true → outw (m + 1) w A v ≤ c v := by
        apply Classical.byContradiction
        intro hno
        refine ht fun A hA0 hAs => ?_
        apply Classical.byContradiction
        intro hno2
        refine hno ⟨A, hA0, hAs, fun v hv hva => ?_⟩
        apply Classical.byContradiction
        intro h
        exact hno2 ⟨v, hv, hva, by omega⟩
      obtain ⟨A, hA0, ⟨a, ha, haA⟩, hle⟩ := hA
      obtain ⟨s, hsd⟩ : ∃ s : Nat → Int, s = fun u => if A u then 1 else 0 := ⟨_, rfl⟩
      have hs0 : s 0 = 0 := by rw [hsd]; simp [hA0]
      have hs1 : ∀ u, 0 ≤ s u := fun u => by rw [hsd]; dsimp only; split <;> omega
      have hlap : ∀ v, lap (m + 1) w s v = if A v then outw (m + 1) w A v else - joinw (m + 1) w A v := fun v => by
        rw [hsd, lap_ind A 1 v, Int.one_mul, Int.one_mul]
      have hj0 : ∀ v, 0 ≤ joinw (m + 1) w A v := fun v => sumN_nonneg fun u _ => by split; exact hw v u; omega
      have hD : 1 ≤ detN m (redT (m + 1) w 0) * detN m (redT (m + 1) w 0) := by
        have hne := red_ne (n := m) hw hs hc (q := 0) (by omega)
        have : 0 < detN m (redT (m + 1) w 0) * detN m (redT (m + 1) w 0) := by
          rcases Int.lt_or_gt_of_ne hne with h | h
          · exact Int.mul_pos_of_neg_of_neg h h
          · exact Int.mul_pos h h
        omega
      have hnew : ∀ v, v < m + 1 → v ≠ 0 → 0 ≤ c v - lap (m + 1) w s v := fun v hv _ => by
        rw [hlap v]
        have h1 := hcn v hv
        have h2 := hj0 v
        split
        · rename_i h; have := hle v hv h; omega
        · omega
      have hpot : (sumN m fun i => (c (i + 1) - lap (m + 1) w s (i + 1)) * potG m w i) = (sumN m fun i => c (i + 1) * potG m w i) - detN m (redT (m + 1) w 0) * detN m (redT (m + 1) w 0) * sumN m fun j => s (j + 1) := by
        have e1 : (sumN m fun i => (c (i + 1) - lap (m + 1) w s (i + 1)) * potG m w i) = (sumN m fun i => c (i + 1) * potG m w i) + - sumN m fun i => lap (m + 1) w s (i + 1) * potG m w i := by
          rw [← sumN_neg, ← sumN_add]
          exact sumN_congr fun i _ => by rw [Int.sub_mul]; omega
        have e2 : (sumN m fun i => lap (m + 1) w s (i + 1) * potG m w i) = sumN m fun i => sumN m fun j => s (j + 1) * (redT (m + 1) w 0 j i * potG m w i) := sumN_congr fun i hi => by
          rw [← redT_one hs0 hi, Int.mul_comm, ← sumN_mul]
          refine sumN_congr fun j _ => ?_
          rw [redT_sym hs 0 i j]
          grind
        have e3 : (sumN m fun j => sumN m fun i => s (j + 1) * (redT (m + 1) w 0 j i * potG m w i)) = detN m (redT (m + 1) w 0) * detN m (redT (m + 1) w 0) * sumN m fun j => s (j + 1) := by
          rw [← sumN_mul]
          exact sumN_congr fun j hj => by rw [sumN_mul, pot_mul hs hj, Int.mul_comm]
        rw [e1, e2, sumN_swap, e3]
        omega
      have hsum : 1 ≤ sumN m fun j => s (j + 1) := by
        obtain ⟨k, rfl⟩ : ∃ k, a = k + 1 := by
          cases a with
          | zero => rw [hA0] at haA; cases haA
          | succ k => exact ⟨k, rfl⟩
        have := sumN_ge (n := m) (c := k) (f := fun j => s (j + 1)) (fun i _ => hs1 _) (by omega)
        have h1 : s (k + 1) = 1 := by rw [hsd]; simp [haA]
        have this : s (k + 1) ≤ sumN m fun j => s (j + 1) := this
        omega
      have hmul := Int.mul_le_mul hD hsum (by omega) (by omega)
      have hge : ∀ f : Nat → Int, (∀ v, v < m + 1 → v ≠ 0 → 0 ≤ f v) → 0 ≤ sumN m fun i => f (i + 1) * potG m w i := fun f hf => sumN_nonneg fun i hi => Int.mul_nonneg (hf (i + 1) (by omega) (by omega)) (pot_nonneg hw hs hc hi)
      have hg1 := hge c fun v hv _ => hcn v hv
      have hg2 := hge (fun v => c v - lap (m + 1) w s v) hnew
      have hg2 : 0 ≤ sumN m fun i => (c (i + 1) - lap (m + 1) w s (i + 1)) * potG m w i := hg2
      obtain ⟨c', hc'⟩ : ∃ c' : Nat → Int, c' = fun v => if v = 0 then 0 else c v - lap (m + 1) w s v := ⟨_, rfl⟩
      have hcs : ∀ i, c' (i + 1) = c (i + 1) - lap (m + 1) w s (i + 1) := fun i => by rw [hc']; simp
      obtain ⟨d, hd0, hd1, hd2, hd3⟩ := ih (sumN m fun i => c' (i + 1) * potG m w i).toNat (by
        rw [sumN_congr fun i _ => by rw [hcs i]]
        omega) c' (by rw [hc']; rfl) (fun v hv => by
          rw [hc']
          dsimp only
          split
          · exact Int.le_refl _
          · rename_i h; exact hnew v hv h) rfl
      refine ⟨d, hd0, hd1, hd2, Cong.trans ⟨fun j => s (j + 1), fun i hi => ?_⟩ hd3⟩
      rw [redT_one hs0 hi]
      show c (i + 1) - c' (i + 1) = _
      rw [hcs i]
      omega
/-- EVERY CLASS HAS A TIGHT VECTOR. -/
theorem tight_rep {m : Nat} {w : Nat → Nat → Int} (hw : ∀ v u, 0 ≤ w v u) (hs : ∀ v u, w v u = w u v) (hc : Conn (m + 1) w) (x : Nat → Int) :
    ∃ d : Nat → Int, d 0 = 0 ∧ (∀ v, v < m + 1 → 0 ≤ d v) ∧ Tight (m + 1) w 0 d ∧ Cong m (redT (m + 1) w 0) x (fun i => d (i + 1)) := by
  obtain ⟨y, hy, hxy⟩ := eff_ex hw hs hc x
  obtain ⟨d, h0, h1, h2, h3⟩ := tight_ex hw hs hc _ (fun v => if v = 0 then 0 else y (v - 1)) rfl (fun v hv => by
    show 0 ≤ if v = 0 then 0 else y (v - 1)
    split
    · exact Int.le_refl _
    · exact hy _ (by omega)) rfl
  refine ⟨d, h0, h1, h2, hxy.trans ?_⟩
  obtain ⟨k, hk⟩ := h3
  exact ⟨k, fun i hi => by have := hk i hi; simpa using this⟩
/-- AND ONE ALONE. -/
theorem tight_one {m : Nat} {w : Nat → Nat → Int} (hw : ∀ v u, 0 ≤ w v u) {d d' : Nat → Int} (h0 : d 0 = 0) (h0' : d' 0 = 0) (hd : ∀ v, v < m + 1 → 0 ≤ d v) (hd' : ∀ v, v < m + 1 → 0 ≤ d' v)
    (ht : Tight (m + 1) w 0 d) (ht' : Tight (m + 1) w 0 d') (hq : Cong m (redT (m + 1) w 0) (fun i => d (i + 1)) (fun i => d' (i + 1))) : ∀ v, v < m + 1 → d v = d' v := by
  obtain ⟨c, hc⟩ := hq
  obtain ⟨s, hsd⟩ : ∃ s : Nat → Int, s = fun u => if u = 0 then 0 else c (u - 1) := ⟨_, rfl⟩
  have hs0 : s 0 = 0 := by rw [hsd]; rfl
  have hs1 : ∀ j, s (j + 1) = c j := fun j => by rw [hsd]; simp
  -- the values at 0 are of no account
  have key : ∀ v, v < m + 1 → v ≠ 0 → d v - d' v = lap (m + 1) w s v := fun v hv hv0 => by
    obtain ⟨k, rfl⟩ : ∃ k, v = k + 1 := ⟨v - 1, by omega⟩
    have := hc k (by omega)
    dsimp only at this
    rw [this, ← redT_one hs0 (by omega)]
    exact sumN_congr fun j _ => by rw [hs1]
  obtain ⟨e, he⟩ : ∃ e : Nat → Int, e = fun v => if v = 0 then - lap (m + 1) w s 0 else d' v := ⟨_, rfl⟩
  have he1 : ∀ v, v ≠ 0 → e v = d' v := fun v hv => by rw [he]; simp [hv]
  have hte : Tight (m + 1) w 0 e := fun A hA hs => by
    obtain ⟨v, hv, hvA, hlt⟩ := ht' A hA hs
    refine ⟨v, hv, hvA, ?_⟩
    rw [he1 v (fun h0 => by rw [h0, hA] at hvA; cases hvA)]
    exact hlt
  have hu := (reduced_unique (s := s) hw (show 0 < m + 1 by omega) ht hte (fun v hv _ => hd v hv) (fun v hv hne => by rw [he1 v hne]; exact hd' v hv) fun v hv => by
    by_cases h : v = 0
    · subst h; rw [he, h0]; simp
    · rw [he1 v h]; have := key v hv h; omega).2
  intro v hv
  by_cases h : v = 0
  · subst h; rw [h0, h0']
  · have := hu v hv; rw [he1 v h] at this; exact this
/-- HOW MANY TIGHT VECTORS THERE ARE. -/
theorem tight_count {m : Nat} {w : Nat → Nat → Int} (hw : ∀ v u, 0 ≤ w v u) (hs : ∀ v u, w v u = w u v) (hc : Conn (m + 1) w) {L : List (List Int)} (hn : L.Nodup)
    (hL : ∀ x : List Int, x ∈ L ↔ x.length = m + 1 ∧ x.getD 0 0 = 0 ∧ (∀ v, v < m + 1 → 0 ≤ x.getD v 0) ∧ Tight (m + 1) w 0 fun v => x.getD v 0) : L.length = (detN m (redT (m + 1) w 0)).natAbs := by
  refine CRS.unique (n := m) (M := redT (m + 1) w 0) ⟨fun k i => (L.getD k []).getD (i + 1) 0, fun x => ?_, fun k l hk hl hq => ?_⟩ (crs_det m _ (red_ne hw hs hc (by omega)))
  · obtain ⟨d, h0, h1, h2, h3⟩ := tight_rep hw hs hc x
    have hx : ∀ v, v < m + 1 → ((List.range (m + 1)).map d).getD v 0 = d v := fun v hv => by
      rw [List.getD_eq_getElem?_getD, List.getElem?_map, List.getElem?_range hv]; rfl
    have hm : (List.range (m + 1)).map d ∈ L := (hL _).2 ⟨by simp, by rw [hx 0 (by omega), h0], fun v hv => by rw [hx v hv]; exact h1 v hv, fun A hA hs => by
      obtain ⟨v, hv, hvA, hlt⟩ := h2 A hA hs
      exact ⟨v, hv, hvA, by show ((List.range (m + 1)).map d).getD v 0 < _; rw [hx v hv]; exact hlt⟩⟩
    obtain ⟨k, hk, hke⟩ := List.mem_iff_getElem.1 hm
    refine ⟨k, hk, cong_eq h3 fun i hi => ?_⟩
    show d (i + 1) = (L.getD k []).getD (i + 1) 0
    rw [show L.getD k [] = (List.range (m + 1)).map d by rw [List.getD_eq_getElem?_getD, List.getElem?_eq_getElem hk, hke]; rfl]
    exact (hx (i + 1) (by omega)).symm
  · have hkm : L.getD k [] ∈ L := by rw [List.getD_eq_getElem?_getD, List.getElem?_eq_getElem hk]; exact List.getElem_mem hk
    have hlm : L.getD l [] ∈ L := by rw [List.getD_eq_getElem?_getD, List.getElem?_eq_getElem hl]; exact List.getElem_mem hl
    obtain ⟨a1, a2, a3, a4⟩ := (hL _).1 hkm
    obtain ⟨b1, b2, b3, b4⟩ := (hL _).1 hlm
    have hv := tight_one hw a2 b2 a3 b3 a4 b4 hq
    have he : ∀ a b : List Int, a.length = m + 1 → b.length = m + 1 → (∀ v, v < m + 1 → a.getD v 0 = b.getD v 0) → a = b := fun a b ha hb h => List.ext_getElem (by omega) fun v hv1 hv2 => by
      have := h v (by omega)
      rw [List.getD_eq_getElem?_getD, List.getD_eq_getElem?_getD, List.getElem?_eq_getElem hv1, List.getElem?_eq_getElem hv2] at this
      exact this
    have he := he _ _ a1 b1 hv
    rw [List.getD_eq_getElem?_getD, List.getD_eq_getElem?_getD, List.getElem?_eq_getElem hk, List.getElem?_eq_getElem hl] at he
    have hp := List.pairwise_iff_getElem.1 hn
    rcases Nat.lt_trichotomy k l with h | h | h
    · exact absurd he (hp k l hk hl h)
    · exact h
    · exact absurd he.symm (hp l k hl hk h)
end Go.Proofs.YtjfggodnfoknfaaGreatDoor

namespace Go.Proofs.YtjfggodnfoknfaaGreatDoor
theorem det_pos {m : Nat} {w : Nat → Nat → Int} (hw : ∀ v u, 0 ≤ w v u) (hs : ∀ v u, w v u = w u v) (hc : Conn (m + 1) w) : ∀ k, k ≤ m → 0 < detN k (redT (m + 1) w 0) := by
  intro k
  induction k with
  | zero => intro _; show (0 : Int) < 1; omega
  | succ k ih =>
    intro hk
    have h1 := ih (by omega)
    have hne : detN (k + 1) (redT (m + 1) w 0) ≠ 0 := det_ne (redT_sym hs 0) fun j hj => redT_inj hw hc (by omega) (by omega)
    obtain ⟨T, hT⟩ : ∃ T, T = redT (m + 1) w 0 := ⟨_, rfl⟩
    obtain ⟨D, hD⟩ : ∃ D, D = detN (k + 1) T := ⟨_, rfl⟩
    have hS : Sym T := by rw [hT]; exact redT_sym hs 0
    rw [← hT] at h1 hne ⊢
    rw [← hD] at hne ⊢
    have hrow : ∀ i, i < k + 1 → (sumN (k + 1) fun j => T i j * cof (k + 1) T k j) = if k = i then D else 0 := fun i hi => by rw [hD]; exact cof_row hS (by omega) hi
    have hkk : cof (k + 1) T k k = detN k T := by
      have := det_last k T
      unfold cof
      exact this
    have hle := dirichlet_le (s := fun v => if v = 0 then 0 else if v ≤ k + 1 then -(D * cof (k + 1) T k (v - 1)) else 0) hw hc (fun v => decide (v = 0) || decide (k + 1 < v)) (q := 0) (by omega) (by simp) (fun v hv hb => by
      simp only [Bool.or_eq_false_iff, decide_eq_false_iff_not] at hb
      obtain ⟨i, rfl⟩ : ∃ i, v = i + 1 := ⟨v - 1, by omega⟩
      rw [← redT_one (w := w) (by rfl) (show i < m by omega), ← hT]
      rw [sumN_cut (show k + 1 ≤ m by omega)]
      · have e : (sumN (k + 1) fun j => T i j * (if j + 1 = 0 then 0 else if j + 1 ≤ k + 1 then -(D * cof (k + 1) T k (j + 1 - 1)) else 0)) = -D * sumN (k + 1) fun j => T i j * cof (k + 1) T k j := by
          rw [← sumN_mul]
          refine sumN_congr fun j hj => ?_
          rw [if_neg (by omega), if_pos (by omega), Nat.add_sub_cancel]
          grind
        rw [e, hrow i (by omega)]
        by_cases hki : k = i
        · rw [if_pos hki]
          have : 0 ≤ D * D := by
            rcases Int.lt_or_gt_of_ne hne with h | h
            · exact Int.le_of_lt (Int.mul_pos_of_neg_of_neg h h)
            · exact Int.le_of_lt (Int.mul_pos h h)
          rw [Int.neg_mul]; omega
        · rw [if_neg hki]; simp
      · intro j h2 h3
        rw [if_neg (by omega), if_neg (by omega)]; simp) (fun v hv hb => by
      simp only [Bool.or_eq_true, decide_eq_true_eq] at hb
      rcases hb with rfl | h
      · simp
      · rw [if_neg (by omega), if_neg (by omega)]; exact Int.le_refl _) (k + 1) (by omega)
    rw [if_neg (by omega), if_pos (Nat.le_refl _), Nat.add_sub_cancel, hkk] at hle
    rcases Int.lt_or_gt_of_ne hne with h | h
    · exfalso
      have := Int.mul_neg_of_neg_of_pos h h1
      omega
    · exact h
end Go.Proofs.YtjfggodnfoknfaaGreatDoor

namespace Go.Proofs.YtjfggodnfoknfaaGreatDoor
open Go.RowKit Go.Shelf
/-- What FewTrees answers. -/
def fewT (n : Int) (es : List Tri) : Bool := if 40 < es.length then false else if gcheckE n es ≠ 0 then true else decide (n ≤ 5) && decide ((singL es).length ≤ 8)
theorem fewT_sm {n : Int} {es : List Tri} (h : fewT n es = true) (hg : gcheckE n es = 0) : n ≤ 5 ∧ multS es ≤ 8 := by
  unfold fewT at h
  by_cases h1 : 40 < es.length
  · rw [if_pos h1] at h; cases h
  · rw [if_neg h1, if_neg (by simpa using hg)] at h
    simp only [Bool.and_eq_true, decide_eq_true_eq] at h
    obtain ⟨m, rfl, _, _, hE⟩ := gcheckE_zero hg
    have := sing_mult (es := es) fun t ht => by have := hE.mult t ht; omega
    exact ⟨h.1, by omega⟩
theorem rSmallT_any (g : Value) (n : Int) (es : List Tri) (w : World) (hg : GV w g n es) :
    Calls Tryz.prog 21 #[g, .int .i64 5, .int .i64 8] w fun e w' => e = .returned (.bool (fewT n es)) ∧ Below w.heap.size w w' := by
  obtain ⟨A, c, rfl, hlc, hc, -⟩ := hg.open_
  obtain ⟨W0, hW0⟩ : ∃ W0, W0 = w.alloc (.cells #[.int .i64 n, .slice A es.length c] 24) := ⟨_, rfl⟩
  have hb0 : Below w.heap.size w W0 := by rw [hW0]; exact below_alloc w _
  have hx0 : BL W0 w.heap.size 24 [.int .i64 n, .slice A es.length c] := by rw [hW0]; exact BL.new' w _ _
  have hgc := rgCheck_any _ n es W0 (hg.below hb0)
  have c0 := hx0.cell 0
  have c1 := hx0.cell 1
  have HX0 := Lib.hid hx0
  have HG0 := Lib.hid (hg.below hb0)
  have HB0 := Lib.hid hb0
  have HW0 := Lib.hid hW0
  rw [hW0] at c0 c1
  clear hg hb0 hx0 hW0
  by_cases h1 : 40 < es.length
  · have HR : Hid (fewT n es = false) := by show _ = _; unfold fewT; rw [if_pos h1]
    go_enter Tryz.func21, Tryz.ntmps21
    go_wp2
    go_ret
    exact ⟨ret_b HR.out.symm, below_alloc w _⟩
  by_cases h2 : gcheckE n es = 0
  · rw [h2] at hgc
    have HGc := Lib.hid hgc
    obtain ⟨m, rfl, h12, _, hE⟩ := gcheckE_zero h2
    have H2 := Lib.hid h2
    have HFw : Hid (fewT m es = (decide ((m : Int) ≤ 5) && decide ((singL es).length ≤ 8))) := by show _ = _; unfold fewT; rw [if_neg h1, if_neg (by simpa using h2)]
    have HE := Lib.hid hE
    have HL : Hid (es.length ≤ 40) := by show _ ≤ _; omega
    clear h2 hE hgc
    go_enter Tryz.func21, Tryz.ntmps21
    go_wp2_with fail
    rw [← HW0.out]
    refine HGc.out.mono ?_
    rintro e w1 ⟨rfl, hb1⟩
    have hx1 := HX0.out.bel hb1
    have d0 := hx1.cell 0
    have d1 := hx1.cell 1
    have HSz := Lib.hid (rSize_any _ m es w1 (HG0.out.below hb1) HE.out HL.out)
    have HB1 := Lib.hid (HB0.out.trans (hb1.mono HB0.out.size))
    clear hb1 hx1 c0 c1
    by_cases h6 : (m : Int) ≤ 5
    · by_cases h9 : (singL es).length ≤ 8
      · have HR : Hid (fewT m es = true) := by show _ = _; rw [HFw.out]; simp [h6, h9]
        obtain ⟨l, hl⟩ : ∃ l, l = (singL es).length := ⟨_, rfl⟩
        rw [← hl] at HSz h9
        have h9' : (l : Int) ≤ 8 := by omega
        clear hl HFw h9
        go_wp2_with fail
        refine HSz.out.mono ?_
        rintro e w2 ⟨rfl, hb2⟩
        have HB2 := Lib.hid (HB1.out.trans (hb2.mono HB1.out.size))
        clear hb2
        go_wp2
        go_ret
        exact ⟨ret_b HR.out.symm, HB2.out⟩
      · have HR : Hid (fewT m es = false) := by show _ = _; rw [HFw.out]; simp [h9]
        obtain ⟨l, hl⟩ : ∃ l, l = (singL es).length := ⟨_, rfl⟩
        rw [← hl] at HSz h9
        have h9' : ¬ (l : Int) ≤ 8 := by omega
        clear hl HFw h9
        go_wp2_with fail
        refine HSz.out.mono ?_
        rintro e w2 ⟨rfl, hb2⟩
        have HB2 := Lib.hid (HB1.out.trans (hb2.mono HB1.out.size))
        clear hb2
        go_wp2
        go_ret
        exact ⟨ret_b (by rw [HR.out]; exact decide_eq_false (by omega)), HB2.out⟩
    · have HR : Hid (fewT m es = false) := by show _ = _; rw [HFw.out]; simp [h6]
      clear HFw
      go_wp2
      go_ret
      exact ⟨ret_b HR.out.symm, HB1.out⟩
  · obtain ⟨r, hr⟩ : ∃ r, r = gcheckE n es := ⟨_, rfl⟩
    have HR : Hid (fewT n es = true) := by show _ = _; unfold fewT; rw [if_neg h1, if_pos h2]
    rw [← hr] at hgc h2
    have HGc := Lib.hid hgc
    have t : (r != 0) = true := by simpa using h2
    clear hgc hr h2
    go_enter Tryz.func21, Tryz.ntmps21
    go_wp2_with fail
    rw [← HW0.out]
    refine HGc.out.mono ?_
    rintro e w1 ⟨rfl, hb1⟩
    have HB1 := Lib.hid (HB0.out.trans (hb1.mono HB0.out.size))
    clear hb1 c0 c1
    go_wp2
    go_ret
    exact ⟨ret_b HR.out.symm, HB1.out⟩
theorem rFewT_any (g : Value) (n : Int) (es : List Tri) (w : World) (hg : GV w g n es) :
    Calls Tryz.prog 5 #[g] w fun e w' => e = .returned (.bool (fewT n es)) ∧ Below w.heap.size w w' := by
  obtain ⟨A, c, rfl, -⟩ := hg.open_
  obtain ⟨W0, hW0⟩ : ∃ W0, W0 = w.alloc (.cells #[.int .i64 n, .slice A es.length c] 24) := ⟨_, rfl⟩
  have hb0 : Below w.heap.size w W0 := by rw [hW0]; exact below_alloc w _
  have hx0 : BL W0 w.heap.size 24 [.int .i64 n, .slice A es.length c] := by rw [hW0]; exact BL.new' w _ _
  have HC := Lib.hid (rSmallT_any _ n es W0 (hg.below hb0))
  have c0 := hx0.cell 0
  have c1 := hx0.cell 1
  have HB0 := Lib.hid hb0
  have HW0 := Lib.hid hW0
  rw [hW0] at c0 c1
  clear hg hb0 hx0 hW0
  go_enter Tryz.func5, Tryz.ntmps5
  go_wp2_with fail
  rw [← HW0.out]
  refine HC.out.mono ?_
  rintro e w1 ⟨rfl, hb1⟩
  have HB1 := Lib.hid (HB0.out.trans (hb1.mono HB0.out.size))
  clear hb1 c0 c1
  go_wp2
  go_ret
  exact ⟨rfl, HB1.out⟩
end Go.Proofs.YtjfggodnfoknfaaGreatDoor

namespace Go.Proofs.YtjfggodnfoknfaaGreatDoor
open Go.RowKit Go.Shelf
/-- What the vertex q has more. -/
def exQ (o : List Int) (ee : Int) (v : Nat) : Int := if o.getD v 0 = 0 then ee else 0
theorem exQ_far {o : List Int} {ee : Int} {v : Nat} (h : o.getD v 0 ≠ 0) : exQ o ee v = 0 := if_neg h
/-- What holds while it lends; all that is farther than k has no debt. -/
structure LndQ (ee : Int) (n : Nat) (es : List Tri) (o d0 : List Int) (top : Int) (d s : List Int) (k : Int) : Prop where
  dl : d.length = n
  sl : s.length = n
  eq : ∀ v, v < n → d.getD v 0 = d0.getD v 0 - lap n (wgt es) (fun u => s.getD u 0) v
  up : ∀ v, v < n → 0 ≤ s.getD v 0
  sb : ∀ v, v < n → s.getD v 0 ≤ (top - k) * 51200
  pos : ∀ v, v < n → k < o.getD v 0 → 0 ≤ d.getD v 0
  bd : ∀ v, v < n → -pw2 (upN o k es) ≤ d.getD v 0 - exQ o ee v ∧ d.getD v 0 - exQ o ee v ≤ pw2 (upN o k es)
theorem lnd_startQ {ee : Int} {n : Nat} {es : List Tri} {o d0 : List Int} {top : Int} (hd : d0.length = n) (hb : ∀ v, v < n → -100 ≤ d0.getD v 0 - exQ o ee v ∧ d0.getD v 0 - exQ o ee v ≤ 100) (ht : ∀ v, v < n → o.getD v 0 ≤ top) : LndQ ee n es o d0 top d0 (List.replicate n 0) top := by
  have hr : ∀ v, (List.replicate n (0 : Int)).getD v 0 = 0 := fun v => by
    rw [List.getD_eq_getElem?_getD, List.getElem?_replicate]; split <;> rfl
  refine ⟨hd, by simp, fun v hv => ?_, fun v _ => by rw [hr]; omega, fun v _ => by rw [hr]; omega, fun v hv h => by have := ht v hv; omega, fun v hv => ?_⟩
  · have : lap n (wgt es) (fun u => (List.replicate n (0 : Int)).getD u 0) v = 0 := sumN_zero fun u _ => by simp only [hr]; simp
    rw [this]; omega
  · have := hb v hv
    have := pw2_pos (upN o top es)
    omega
/-- One level. -/
theorem lnd_stepQ {ee : Int} {n q : Nat} {es : List Tri} {o d0 d s d' s' : List Int} {top k tm : Int} {nr : List Bool} (hE : Edges n es) (hD : Dist n q es o) (hm : multS es ≤ 9) (h : LndQ ee n es o d0 top d s k) (hN : NearL n o k nr) (hc : Ceil n es o d k nr (pw2 (upN o k es)) tm)
    (hdl : d'.length = n) (hsl : s'.length = n) (hd : ∀ v, v < n → d'.getD v 0 = d.getD v 0 - lap n (wgt es) (fun u => if fnB nr u = true then tm else 0) v) (hs : ∀ v, v < n → s'.getD v 0 = s.getD v 0 + if fnB nr v = true then tm else 0) :
    LndQ ee n es o d0 top d' s' (k - 1) := by
  have hnb := dist_nb hE hD
  obtain ⟨c1, c2, c3⟩ := hc
  have hj := fun v => joinE_le hE.pos (fnB nr) v
  have hind : ∀ v, v < n → lap n (wgt es) (fun u => if fnB nr u = true then tm else 0) v = if fnB nr v = true then tm * joinE es (fun u => !fnB nr u) v else -(tm * joinE es (fnB nr) v) := fun v hv => by
    have e := outw_not n (wgt es) (fun u => !fnB nr u) v
    simp only [Bool.not_not] at e
    rw [lap_ind, e, join_edges hE.ends, join_edges hE.ends]
  have hup := upW_le (o := o) (k := k) hE.pos
  have hup1 := upW_le (o := o) (k := k - 1) hE.pos
  have h9 := pw9 hE hm o k
  refine ⟨hdl, hsl, fun v hv => ?_, fun v hv => ?_, fun v hv => ?_, fun v hv ho => ?_, fun v hv => ?_⟩
  · rw [hd v hv, h.eq v hv, Int.sub_sub, ← lap_add]
    congr 1
    exact lap_congr hv fun u hu => by rw [hs u hu]
  · rw [hs v hv]; have := h.up v hv; split <;> omega
  · rw [hs v hv]; have := h.sb v hv
    have e : (top - (k - 1)) * 51200 = (top - k) * 51200 + 51200 := by omega
    rw [e]; split <;> omega
  · rw [hd v hv, hind v hv]
    have hn : ¬ fnB nr v = true := fun hh => by have := (near_out hN hh).2; omega
    rw [if_neg hn]
    have hp := Int.mul_nonneg c1 (hj v).1
    by_cases e : o.getD v 0 = k
    · by_cases hneg : d.getD v 0 < 0
      · have := c3 v hv e hneg; omega
      · omega
    · have := h.pos v hv (by omega); omega
  · have hb := h.bd v hv
    have hbig : ∀ x : Int, 0 ≤ x → x ≤ upW o (k - 1) es - upW o k es → 0 ≤ tm * x ∧ pw2 (upN o k es) + tm * x ≤ pw2 (upN o (k - 1) es) := fun x hx0 hx => by
      refine ⟨Int.mul_nonneg c1 hx0, ?_⟩
      have h1 := pw2_add (upN o k es) x.toNat
      have h2 := Int.mul_le_mul_of_nonneg_right c2 hx0
      have h3 : ((x.toNat : Nat) : Int) = x := by omega
      rw [h3] at h1
      have h4 := pw2_mono (a := upN o k es + x.toNat) (b := upN o (k - 1) es) (by unfold upN; omega)
      omega
    rw [hd v hv, hind v hv]
    by_cases c : fnB nr v = true
    · rw [if_pos c]
      have := hbig (joinE es (fun u => !fnB nr u) v) (joinE_le hE.pos _ v).1 (join_up hnb (.inl ⟨(near_out hN c).2, fun u hul hu => by rw [hN.2 u hul] at hu; simpa using hu⟩))
      omega
    · rw [if_neg c]
      have := hbig (joinE es (fnB nr) v) (hj v).1 (join_up hnb (.inr ⟨by have := hN.2 v hv; rw [Bool.not_eq_true] at c; rw [c] at this; simpa using this.symm, fun u _ hu => (near_out hN hu).2⟩))
      omega
theorem lnd_fireQ {ee : Int} {n q : Nat} {es : List Tri} {o d0 d s : List Int} {top k tm : Int} {nr : List Bool} (hE : Edges n es) (hD : Dist n q es o) (hm : multS es ≤ 9) (h : LndQ ee n es o d0 top d s k) (hN : NearL n o k nr) (hc : Ceil n es o d k nr (pw2 (upN o k es)) tm) :
    LndQ ee n es o d0 top (fireS nr tm es n d) (addS nr tm n s) (k - 1) := by
  have hd : ∀ v, v < n → (fireS nr tm es n d).getD v 0 = d.getD v 0 - lap n (wgt es) (fun u => if fnB nr u = true then tm else 0) v := fun v hv => by
    rw [fireS_get hE.ends h.dl _ _ (Nat.le_refl _) hv, ← lap_edges hE.ends]
    congr 1
    refine lap_congr hv fun u hu => ?_
    unfold fnB
    by_cases c : nr.getD u false = true
    · rw [if_pos ⟨hu, c⟩, if_pos c]
    · rw [if_neg fun hh => c hh.2, if_neg c]
  have hs : ∀ v, v < n → (addS nr tm n s).getD v 0 = s.getD v 0 + if fnB nr v = true then tm else 0 := fun v hv => by
    rw [addS_get (by rw [h.sl]; exact Nat.le_refl _)]
    congr 1
    unfold fnB
    by_cases c : nr.getD v false = true
    · rw [if_pos ⟨hv, c⟩, if_pos c]
    · rw [if_neg fun hh => c hh.2, if_neg c]
  exact lnd_stepQ hE hD hm h hN hc (by rw [fireS_len]; exact h.dl) (by rw [addS_len]; exact h.sl) hd hs
theorem lnd_skipQ {ee : Int} {n q : Nat} {es : List Tri} {o d0 d s : List Int} {top k : Int} {nr : List Bool} (hE : Edges n es) (hD : Dist n q es o) (hm : multS es ≤ 9) (h : LndQ ee n es o d0 top d s k) (hN : NearL n o k nr) (hc : Ceil n es o d k nr (pw2 (upN o k es)) 0) :
    LndQ ee n es o d0 top d s (k - 1) := by
  refine lnd_stepQ hE hD hm h hN hc h.dl h.sl (fun v hv => ?_) (fun v hv => by split <;> omega)
  have : lap n (wgt es) (fun u => if fnB nr u = true then (0 : Int) else 0) v = 0 := sumN_zero fun u _ => by simp
  rw [this]; omega
end Go.Proofs.YtjfggodnfoknfaaGreatDoor

