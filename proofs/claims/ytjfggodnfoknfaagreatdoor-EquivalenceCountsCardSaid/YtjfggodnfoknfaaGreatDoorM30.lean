/- The number of classes of integer vectors modulo the columns of a table is its determinant (plain).
   Elimination without fractions in a table of at most four rows: every entry is a minor, and each division leaves no remainder (plain).
   The elimination's state at its start.
   Contract of eliminate.
   Contract of Determinant.
   The iterator over a graph's edges that are no loops. -/
import Derived.Test.YtjfggodnfoknfaaGreatDoorM29
set_option maxRecDepth 100000
set_option maxHeartbeats 16000000
namespace Go.Proofs.YtjfggodnfoknfaaGreatDoor

/-- Congruent modulo the columns of a table. -/
def Cong (n : Nat) (M : Nat → Nat → Int) (x y : Nat → Int) : Prop := ∃ c : Nat → Int, ∀ i, i < n → x i - y i = sumN n fun j => M i j * c j
theorem Cong.refl (n : Nat) (M : Nat → Nat → Int) (x : Nat → Int) : Cong n M x x := ⟨fun _ => 0, fun i _ => by rw [sumN_zero (fun j _ => Int.mul_zero _)]; omega⟩
theorem Cong.symm {n : Nat} {M : Nat → Nat → Int} {x y : Nat → Int} (h : Cong n M x y) : Cong n M y x := by
  obtain ⟨c, h⟩ := h
  refine ⟨fun j => - c j, fun i hi => ?_⟩
  have e : (sumN n fun j => M i j * - c j) = - sumN n fun j => M i j * c j := by
    rw [← sumN_neg]
    exact sumN_congr fun j _ => Int.mul_neg _ _
  rw [e, ← h i hi]; omega
theorem Cong.trans {n : Nat} {M : Nat → Nat → Int} {x y z : Nat → Int} (h : Cong n M x y) (h' : Cong n M y z) : Cong n M x z := by
  obtain ⟨c, h⟩ := h
  obtain ⟨d, h'⟩ := h'
  refine ⟨fun j => c j + d j, fun i hi => ?_⟩
  have e : (sumN n fun j => M i j * (c j + d j)) = (sumN n fun j => M i j * c j) + sumN n fun j => M i j * d j := by
    rw [← sumN_add]
    exact sumN_congr fun j _ => Int.mul_add _ _ _
  rw [e, ← h i hi, ← h' i hi]; omega
/-- So many vectors stand for all classes, each for one. -/
def CRS (n : Nat) (M : Nat → Nat → Int) (m : Nat) : Prop := ∃ r : Nat → Nat → Int, (∀ x, ∃ k, k < m ∧ Cong n M x (r k)) ∧ ∀ k l, k < m → l < m → Cong n M (r k) (r l) → k = l
theorem pigeon : ∀ (m m' : Nat) (f : Nat → Nat), (∀ k, k < m → f k < m') → (∀ k l, k < m → l < m → f k = f l → k = l) → m ≤ m'
  | 0, _, _, _, _ => Nat.zero_le _
  | m + 1, 0, f, h, _ => absurd (h 0 (by omega)) (by omega)
  | m + 1, m' + 1, f, h, inj => by
    have ih := pigeon m m' (fun k => if f k = m' then f m else f k) (fun k hk => by
      have h1 := h k (by omega)
      have h2 := h m (by omega)
      by_cases e : f k = m'
      · rw [if_pos e]
        have : f m ≠ m' := fun e2 => by have := inj k m (by omega) (by omega) (e.trans e2.symm); omega
        omega
      · rw [if_neg e]; omega) (fun k l hk hl he => by
      by_cases e : f k = m'
      · rw [if_pos e] at he
        by_cases e2 : f l = m'
        · exact inj k l (by omega) (by omega) (e.trans e2.symm)
        · rw [if_neg e2] at he
          have := inj m l (by omega) (by omega) he; omega
      · rw [if_neg e] at he
        by_cases e2 : f l = m'
        · rw [if_pos e2] at he
          have := inj k m (by omega) (by omega) he; omega
        · rw [if_neg e2] at he
          exact inj k l (by omega) (by omega) he)
    omega
theorem CRS.le {n : Nat} {M : Nat → Nat → Int} {m m' : Nat} (h : CRS n M m) (h' : CRS n M m') : m ≤ m' := by
  obtain ⟨r, -, hi⟩ := h
  obtain ⟨s, hc, -⟩ := h'
  obtain ⟨f, hf⟩ : ∃ f : Nat → Nat, ∀ k, f k < m' ∧ Cong n M (r k) (s (f k)) := ⟨fun k => (hc (r k)).choose, fun k => (hc (r k)).choose_spec⟩
  exact pigeon m m' f (fun k _ => (hf k).1) fun k l hk hl e => hi k l hk hl ((hf k).2.trans (by rw [e]; exact (hf l).2.symm))
theorem CRS.unique {n : Nat} {M : Nat → Nat → Int} {m m' : Nat} (h : CRS n M m) (h' : CRS n M m') : m = m' := Nat.le_antisymm (h.le h') (h'.le h)
/-- A multiple of column b is added to column a. -/
def addCol (M : Nat → Nat → Int) (a b : Nat) (t : Int) : Nat → Nat → Int := setCol M a fun i => M i a + t * M i b
theorem addCol_back {M : Nat → Nat → Int} {a b : Nat} (hab : a ≠ b) (t : Int) : addCol (addCol M a b t) a b (-t) = M := by
  funext i j
  unfold addCol setCol
  by_cases e : j = a
  · subst e; simp only [if_pos, if_neg (Ne.symm hab), Int.neg_mul]; omega
  · simp [e]
theorem Cong.of_add {n : Nat} {M : Nat → Nat → Int} {a b : Nat} (ha : a < n) (hb : b < n) (t : Int) {x y : Nat → Int} (h : Cong n (addCol M a b t) x y) : Cong n M x y := by
  obtain ⟨c, h⟩ := h
  refine ⟨fun j => c j + if j = b then t * c a else 0, fun i hi => ?_⟩
  rw [h i hi]
  have e1 : (sumN n fun j => addCol M a b t i j * c j) = (sumN n fun j => M i j * c j) + sumN n fun j => if j = a then t * M i b * c a else 0 := by
    rw [← sumN_add]
    refine sumN_congr fun j _ => ?_
    unfold addCol setCol
    by_cases e : j = a
    · subst e; simp [Int.add_mul]
    · simp [e]
  have e2 : (sumN n fun j => M i j * (c j + if j = b then t * c a else 0)) = (sumN n fun j => M i j * c j) + sumN n fun j => if j = b then M i b * (t * c a) else 0 := by
    rw [← sumN_add]
    refine sumN_congr fun j _ => ?_
    by_cases e : j = b
    · subst e; simp [Int.mul_add]
    · simp [e]
  rw [e1, e2, sumN_one ha (fun j _ hj => if_neg hj), sumN_one hb (fun j _ hj => if_neg hj), if_pos rfl, if_pos rfl, Int.mul_comm t, Int.mul_assoc]
theorem cong_add {n : Nat} {M : Nat → Nat → Int} {a b : Nat} (ha : a < n) (hb : b < n) (hab : a ≠ b) (t : Int) {x y : Nat → Int} : Cong n (addCol M a b t) x y ↔ Cong n M x y :=
  ⟨Cong.of_add ha hb t, fun h => Cong.of_add ha hb (-t) (by rw [addCol_back hab]; exact h)⟩
theorem CRS.of_add {n : Nat} {M : Nat → Nat → Int} {a b m : Nat} (ha : a < n) (hb : b < n) (hab : a ≠ b) (t : Int) (h : CRS n (addCol M a b t) m) : CRS n M m := by
  obtain ⟨r, h1, h2⟩ := h
  exact ⟨r, fun x => by obtain ⟨k, hk, hc⟩ := h1 x; exact ⟨k, hk, (cong_add ha hb hab t).1 hc⟩, fun k l hk hl hc => h2 k l hk hl ((cong_add ha hb hab t).2 hc)⟩
theorem det_add {n : Nat} {M : Nat → Nat → Int} {a b : Nat} (ha : a < n) (hb : b < n) (hab : a ≠ b) (t : Int) : detN n (addCol M a b t) = detN n M := by
  have h := detN_lin n M a ha 1 t (fun i => M i a) (fun i => M i b)
  have e : (fun i => 1 * M i a + t * M i b) = fun i => M i a + t * M i b := by funext i; rw [Int.one_mul]
  rw [e, setCol_eq, Int.one_mul] at h
  have h0 : detN n (setCol M a fun i => M i b) = 0 := detN_eq_cols n _ ha hb hab fun i _ => by
    unfold setCol; rw [if_pos rfl, if_neg (Ne.symm hab)]
  rw [h0, Int.mul_zero, Int.add_zero] at h
  exact h
/-- The table without its first row and a column. -/
def minorT (M : Nat → Nat → Int) (p : Nat) : Nat → Nat → Int := fun i j => M (i + 1) (skip p j)
theorem crs_minor {n : Nat} {M : Nat → Nat → Int} {p m : Nat} (hp : p < n + 1) (h0 : ∀ j, j < n + 1 → j ≠ p → M 0 j = 0) (hg : M 0 p ≠ 0) (hm : 0 < m) (h : CRS n (minorT M p) m) : CRS (n + 1) M ((M 0 p).natAbs * m) := by
  obtain ⟨r, hc, hi⟩ := h
  refine ⟨fun k i => if i = 0 then ((k / m : Nat) : Int) else r (k % m) (i - 1), fun x => ?_, fun k l hk hl hq => ?_⟩
  · have hr0 := Int.emod_nonneg (x 0) hg
    have hr1 := Int.emod_lt (x 0) hg
    obtain ⟨b, hb, c', hcc⟩ := hc fun i => x (i + 1) - M (i + 1) p * (x 0 / M 0 p)
    have ha : (x 0 % M 0 p).toNat < (M 0 p).natAbs := by omega
    have hdv : ((x 0 % M 0 p).toNat * m + b) / m = (x 0 % M 0 p).toNat := by rw [Nat.mul_comm, Nat.mul_add_div hm, Nat.div_eq_of_lt hb]; omega
    have hmd : ((x 0 % M 0 p).toNat * m + b) % m = b := by rw [Nat.mul_comm, Nat.mul_add_mod, Nat.mod_eq_of_lt hb]
    refine ⟨(x 0 % M 0 p).toNat * m + b, ?_, fun j => if j = p then x 0 / M 0 p else c' (place p j), fun i hi => ?_⟩
    · have := Nat.mul_le_mul_right m (show (x 0 % M 0 p).toNat + 1 ≤ (M 0 p).natAbs from ha)
      rw [Nat.add_mul] at this
      omega
    · dsimp only
      rw [hdv, hmd, sumN_skip n p hp]
      have es : (sumN n fun j => M i (skip p j) * (if skip p j = p then x 0 / M 0 p else c' (place p (skip p j)))) = sumN n fun j => M i (skip p j) * c' j := sumN_congr fun j _ => by rw [if_neg (skip_ne p j), place_skip]
      rw [es, if_pos rfl]
      cases i with
      | zero =>
        rw [if_pos rfl, sumN_zero (fun j hj => by rw [h0 (skip p j) (skip_lt hj) (skip_ne p j), Int.zero_mul]), Int.add_zero]
        have := Int.mul_ediv_add_emod (x 0) (M 0 p)
        omega
      | succ i =>
        rw [if_neg (by omega), Nat.add_sub_cancel]
        have h1 := hcc i (by omega)
        have h2 : (sumN n fun j => minorT M p i j * c' j) = sumN n fun j => M (i + 1) (skip p j) * c' j := rfl
        rw [h2] at h1
        rw [← h1]
        show _ = _ + ((x (i + 1) - _) - _)
        omega
  · obtain ⟨c, hq⟩ := hq
    have q0 := hq 0 (by omega)
    dsimp only at q0
    rw [if_pos rfl, if_pos rfl, sumN_skip n p hp, sumN_zero (fun j hj => by rw [h0 (skip p j) (skip_lt hj) (skip_ne p j), Int.zero_mul]), Int.add_zero] at q0
    have hk2 : k / m < (M 0 p).natAbs := Nat.div_lt_of_lt_mul (by rw [Nat.mul_comm]; exact hk)
    have hl2 : l / m < (M 0 p).natAbs := Nat.div_lt_of_lt_mul (by rw [Nat.mul_comm]; exact hl)
    have hkd := Nat.div_add_mod k m
    have hld := Nat.div_add_mod l m
    generalize k / m = A at *
    generalize l / m = B at *
    have hcp : c p = 0 := by
      apply Classical.byContradiction
      intro hne
      have h1 : (M 0 p * c p).natAbs = (M 0 p).natAbs * (c p).natAbs := Int.natAbs_mul _ _
      have h2 := Nat.mul_le_mul_left (M 0 p).natAbs (show 1 ≤ (c p).natAbs by omega)
      rw [← q0] at h1
      omega
    rw [hcp, Int.mul_zero] at q0
    have hd : A = B := by omega
    have he : k % m = l % m := hi _ _ (Nat.mod_lt _ hm) (Nat.mod_lt _ hm) ⟨fun j => c (skip p j), fun i hin => by
      have q1 := hq (i + 1) (by omega)
      dsimp only at q1
      rw [if_neg (by omega), if_neg (by omega), sumN_skip n p hp, hcp, Int.mul_zero, Int.zero_add, Nat.add_sub_cancel] at q1
      exact q1⟩
    rw [← hkd, ← hld, hd, he]
/-- How large the first row is. -/
def row0 (n : Nat) (M : Nat → Nat → Int) : Nat := (sumN n fun j => ((M 0 j).natAbs : Int)).toNat
theorem row0_add {n : Nat} {M : Nat → Nat → Int} {a b : Nat} (ha : a < n) (hab : a ≠ b) (h1 : M 0 b ≠ 0) (h2 : (M 0 b).natAbs ≤ (M 0 a).natAbs) :
    row0 n (addCol M a b (if (0 ≤ M 0 a) = (0 ≤ M 0 b) then -1 else 1)) < row0 n M := by
  obtain ⟨t, ht⟩ : ∃ t : Int, t = if (0 ≤ M 0 a) = (0 ≤ M 0 b) then -1 else 1 := ⟨_, rfl⟩
  rw [← ht]
  have hlt : (M 0 a + t * M 0 b).natAbs < (M 0 a).natAbs := by
    by_cases c1 : 0 ≤ M 0 a <;> by_cases c2 : 0 ≤ M 0 b <;> simp [c1, c2] at ht <;> subst ht <;> omega
  have e1 : (sumN n fun j => ((addCol M a b t 0 j).natAbs : Int)) = (sumN n fun j => ((M 0 j).natAbs : Int)) + sumN n fun j => if j = a then ((M 0 a + t * M 0 b).natAbs : Int) - (M 0 a).natAbs else 0 := by
    rw [← sumN_add]
    refine sumN_congr fun j _ => ?_
    unfold addCol setCol
    by_cases e : j = a
    · subst e; simp; omega
    · simp [e]
  rw [sumN_one ha (fun j _ hj => if_neg hj), if_pos rfl] at e1
  have hp : 0 ≤ sumN n fun j => ((addCol M a b t 0 j).natAbs : Int) := sumN_nonneg fun j _ => by omega
  unfold row0
  omega
/-- THE NUMBER OF CLASSES. -/
theorem crs_det : ∀ (n : Nat) (M : Nat → Nat → Int), detN n M ≠ 0 → CRS n M (detN n M).natAbs
  | 0, M, _ => ⟨fun _ _ => 0, fun x => ⟨0, by show 0 < (1 : Int).natAbs; decide, fun _ => 0, fun i hi => absurd hi (by omega)⟩, fun k l hk hl _ => by
      have e : (detN 0 M).natAbs = 1 := rfl
      omega⟩
  | n + 1, M, hd => by
    obtain ⟨s, hs⟩ : ∃ s, s = row0 (n + 1) M := ⟨_, rfl⟩
    induction s using Nat.strongRecOn generalizing M with
    | ind s ih =>
      by_cases hex : ∃ a b, a < n + 1 ∧ b < n + 1 ∧ a ≠ b ∧ M 0 b ≠ 0 ∧ (M 0 b).natAbs ≤ (M 0 a).natAbs
      · obtain ⟨a, b, ha, hb, hab, h1, h2⟩ := hex
        have hlt := row0_add ha hab h1 h2
        have he := det_add (M := M) ha hb hab (if (0 ≤ M 0 a) = (0 ≤ M 0 b) then -1 else 1)
        have := ih _ (by rw [hs]; exact hlt) (addCol M a b (if (0 ≤ M 0 a) = (0 ≤ M 0 b) then -1 else 1)) (by rw [he]; exact hd) rfl
        rw [he] at this
        exact this.of_add ha hb hab _
      · have hz : ∀ a b, a < n + 1 → b < n + 1 → a ≠ b → M 0 a ≠ 0 → M 0 b = 0 := fun a b ha hb hab h1 => by
          apply Classical.byContradiction
          intro h2
          rcases Nat.le_total (M 0 b).natAbs (M 0 a).natAbs with h | h
          · exact hex ⟨a, b, ha, hb, hab, h2, h⟩
          · exact hex ⟨b, a, hb, ha, Ne.symm hab, h1, h⟩
        have hp : ∃ p, p < n + 1 ∧ M 0 p ≠ 0 := by
          apply Classical.byContradiction
          intro hn
          refine hd ?_
          rw [detN]
          refine sumN_zero fun k hk => ?_
          have : M 0 k = 0 := Classical.byContradiction fun h => hn ⟨k, hk, h⟩
          rw [this, Int.mul_zero, Int.zero_mul]
        obtain ⟨p, hp, hg⟩ := hp
        have hrow : ∀ j, j < n + 1 → j ≠ p → M 0 j = 0 := fun j hj hjp => hz p j hp hj (Ne.symm hjp) hg
        have hdet : detN (n + 1) M = sgn p * M 0 p * detN n (minorT M p) := by
          rw [detN]
          exact sumN_one hp fun k hk hkp => by rw [hrow k hk hkp, Int.mul_zero, Int.zero_mul]
        have hm : detN n (minorT M p) ≠ 0 := fun h => hd (by rw [hdet, h, Int.mul_zero])
        have hs1 : (sgn p).natAbs = 1 := by unfold sgn; split <;> rfl
        have := crs_minor hp hrow hg (by omega) (crs_det n (minorT M p) hm)
        rw [hdet, Int.natAbs_mul, Int.natAbs_mul, hs1, Nat.one_mul]
        exact this
end Go.Proofs.YtjfggodnfoknfaaGreatDoor

namespace Go.Proofs.YtjfggodnfoknfaaGreatDoor

def dt2 (a b c d : Int) : Int := a * d - b * c
def dt3 (a b c d e f g h i : Int) : Int := a * (e * i - f * h) - b * (d * i - f * g) + c * (d * h - e * g)
theorem detN1 (M : Nat → Nat → Int) : detN 1 M = M 0 0 := by simp [detN, sumN, sgn]
theorem detN2 (M : Nat → Nat → Int) : detN 2 M = dt2 (M 0 0) (M 0 1) (M 1 0) (M 1 1) := by simp [detN, sumN, sgn, skip, dt2]; grind
theorem detN3 (M : Nat → Nat → Int) : detN 3 M = dt3 (M 0 0) (M 0 1) (M 0 2) (M 1 0) (M 1 1) (M 1 2) (M 2 0) (M 2 1) (M 2 2) := by simp [detN, sumN, sgn, skip, dt3]; grind
theorem detN4 (M : Nat → Nat → Int) : detN 4 M = M 0 0 * dt3 (M 1 1) (M 1 2) (M 1 3) (M 2 1) (M 2 2) (M 2 3) (M 3 1) (M 3 2) (M 3 3) - M 0 1 * dt3 (M 1 0) (M 1 2) (M 1 3) (M 2 0) (M 2 2) (M 2 3) (M 3 0) (M 3 2) (M 3 3)
    + M 0 2 * dt3 (M 1 0) (M 1 1) (M 1 3) (M 2 0) (M 2 1) (M 2 3) (M 3 0) (M 3 1) (M 3 3) - M 0 3 * dt3 (M 1 0) (M 1 1) (M 1 2) (M 2 0) (M 2 1) (M 2 2) (M 3 0) (M 3 1) (M 3 2) := by
  simp [detN, sumN, sgn, skip, dt3]; grind
/-- A minor of the first k rows and columns, with row i and column j behind them. -/
def bar (M : Nat → Nat → Int) (k i j : Nat) : Int := match k with
  | 0 => M i j
  | 1 => dt2 (M 0 0) (M 0 j) (M i 0) (M i j)
  | 2 => dt3 (M 0 0) (M 0 1) (M 0 j) (M 1 0) (M 1 1) (M 1 j) (M i 0) (M i 1) (M i j)
  | _ => M 0 0 * dt3 (M 1 1) (M 1 2) (M 1 j) (M 2 1) (M 2 2) (M 2 j) (M i 1) (M i 2) (M i j) - M 0 1 * dt3 (M 1 0) (M 1 2) (M 1 j) (M 2 0) (M 2 2) (M 2 j) (M i 0) (M i 2) (M i j)
    + M 0 2 * dt3 (M 1 0) (M 1 1) (M 1 j) (M 2 0) (M 2 1) (M 2 j) (M i 0) (M i 1) (M i j) - M 0 j * dt3 (M 1 0) (M 1 1) (M 1 2) (M 2 0) (M 2 1) (M 2 2) (M i 0) (M i 1) (M i 2)
/-- What the step divides by. -/
def barP (M : Nat → Nat → Int) (k : Nat) : Int := match k with
  | 0 => 1
  | k + 1 => bar M k k k
theorem bar_step (M : Nat → Nat → Int) (k i j : Nat) (hk : k < 3) : bar M k i j * bar M k k k - bar M k i k * bar M k k j = barP M k * bar M (k + 1) i j := by
  rcases (by omega : k = 0 ∨ k = 1 ∨ k = 2) with rfl | rfl | rfl
  · simp only [bar, barP, dt2]; grind
  · simp only [bar, barP, dt2, dt3]; grind
  · simp only [bar, barP, dt2, dt3]; grind
theorem bar_det (M : Nat → Nat → Int) (k : Nat) (hk : k < 4) : bar M k k k = detN (k + 1) M := by
  rcases (by omega : k = 0 ∨ k = 1 ∨ k = 2 ∨ k = 3) with rfl | rfl | rfl | rfl
  · rw [detN1]; rfl
  · rw [detN2]; rfl
  · rw [detN3]; rfl
  · rw [detN4]; rfl
theorem barP_det (M : Nat → Nat → Int) (k : Nat) (hk : k < 5) : barP M k = detN k M := by
  cases k with
  | zero => rfl
  | succ k => exact bar_det M k (by omega)
end Go.Proofs.YtjfggodnfoknfaaGreatDoor

namespace Go.Proofs.YtjfggodnfoknfaaGreatDoor
open Go.RowKit
theorem rowZ_get {n : Nat} {zs : List Int} {i j : Nat} (hj : j < n) : (rowZ n zs i).getD j 0 = zs.getD (i * n + j) 0 := by
  unfold rowZ
  rw [List.getD_eq_getElem?_getD, List.getElem?_take, if_pos hj, List.getElem?_drop, ← List.getD_eq_getElem?_getD]
theorem rowZ_len {n : Nat} {zs : List Int} {i : Nat} (hz : zs.length = n * n) (hi : i < n) : (rowZ n zs i).length = n := by
  unfold rowZ
  rw [List.length_take, List.length_drop, hz]
  have := Nat.mul_le_mul_right n (show i + 1 ≤ n by omega)
  rw [Nat.succ_mul] at this
  omega
theorem el_start {w w2 : World} {m B1 : Nat} {zs : List Int} {v : Value} {items : List RowIt} (h1 : OV w2 (B1 + 1) 82 v (items.map RowIt.val)) (h2 : ∀ x ∈ items, OV w2 B1 35 x.val (x.2.2.map zV))
    (h3 : items.map (·.2.2) = (List.range m).map (rowZ m zs)) (h4 : (items.map (·.1)).Nodup) (hb : Below w.heap.size w w2) (hB : w.heap.size ≤ B1) (hm : 1 ≤ m) (hzl : zs.length = m * m) :
    ∃ R capR g cp, v = .slice (some ⟨R, 0, none⟩) m capR ∧ m ≤ capR ∧ Hid (∀ w3 W, Below w2.heap.size w2 w3 → W = w3.alloc (.cells #[.slice (some ⟨R, 0, none⟩) m capR, zV 1, .int .i64 1, .int .i64 0, .int .i64 0] 125) →
      ElS w.heap.size w3.heap.size R m g ∧ ELT w.heap.size w w3.heap.size R m capR g cp 1 0 (fun i j => zs.getD (i * m + j) 0) W ∧ w.heap.size ≤ W.heap.size) := by
  have hlen : items.length = m := by have := congrArg List.length h3; simpa using this
  have hrow : ∀ i (hi : i < m), (items[i]'(by omega)).2.2 = rowZ m zs i := fun i hi => by
    have := congrArg (fun l => l[i]?) h3
    simp only [List.getElem?_map, List.getElem?_range hi, List.getElem?_eq_getElem (show i < items.length by omega), Option.map_some, Option.some.injEq] at this
    exact this
  obtain ⟨R, capR, rfl, hRB, hRl⟩ := OV.shape h1 (by rw [List.length_map]; omega)
  rw [List.length_map, hlen] at h1
  obtain ⟨⟨-, h1b⟩, -⟩ := id h1
  have hul : (items.map RowIt.val).length = m := by rw [List.length_map, hlen]
  rw [hul] at h1b
  obtain ⟨R', capR', curR, hv, -, hRh, hRc, -, hRs, -⟩ : ∃ g cap cur, (Value.slice (some ⟨R, 0, none⟩) m capR) = .slice (some ⟨g, 0, none⟩) m cap ∧ B1 + 1 ≤ g ∧ w2.heap[g]? = some (.cells cur 82 (0, 0)) ∧ m ≤ cap ∧ cap ≤ maxLen ∧ cur.size = cap * 1 ∧ cur.toList.take (m * 1) = items.map RowIt.val := by
    rcases h1b with ⟨h, -⟩ | h
    · cases h
    · exact h
  simp only [Value.slice.injEq, Option.some.injEq, Addr.mk.injEq, and_true, true_and] at hv
  obtain ⟨rfl, rfl⟩ := hv
  have hown : w2.ownsRow (B1 + 1) 82 1 (.slice (some ⟨R, 0, none⟩) m capR) m (items.map RowIt.val) := by
    have := h1.1
    rwa [hul] at this
  have hgt : ∀ i (hi : i < m), B1 ≤ (items[i]'(by omega)).1 ∧ (∃ cur, w2.heap[(items[i]'(by omega)).1]? = some (.cells cur 35 (0, 0))) ∧ ∀ j, j < m → w2.cell? ⟨(items[i]'(by omega)).1, j, none⟩ = some (zV (zs.getD (i * m + j) 0)) ∧ w2.frozen? ⟨(items[i]'(by omega)).1, j, none⟩ = false := fun i hi => by
    have hx := h2 _ (List.getElem_mem (show i < items.length by omega))
    rw [RowIt.shape] at hx
    have hl := rowZ_len hzl hi
    rw [hrow i hi] at hx
    have ho := hx.1
    rw [List.length_map] at ho
    refine ⟨?_, ?_, fun j hj => ⟨?_, ho.frozenAt j⟩⟩
    · rcases ho.2 with ⟨h, -⟩ | ⟨g', c', cur, h, hg, -⟩
      · cases h
      · simp only [Value.slice.injEq, Option.some.injEq, Addr.mk.injEq, and_true, true_and] at h
        rw [h.1]; exact hg
    · exact hx.blk rfl
    · rw [ho.cellAt j (by omega), zget (by omega), rowZ_get hj]
  refine ⟨R, capR, fun i => (items.getD i (mkR 0 0 [])).1, fun i => (items.getD i (mkR 0 0 [])).2.1, by rw [List.length_map, hlen], hRc, ?_⟩
  intro w3 W hb3 hW
  have hgi : ∀ i (hi : i < m), (items.getD i (mkR 0 0 [])) = items[i]'(by omega) := fun i hi => by
    rw [List.getD_eq_getElem?_getD, List.getElem?_eq_getElem (show i < items.length by omega)]; rfl
  have hbw : Below w3.heap.size w3 W := by rw [hW]; exact below_alloc w3 _
  have hs23 := hb3.size
  have hsw := hb.size
  have hlt2 : ∀ i (hi : i < m), (items.getD i (mkR 0 0 [])).1 < w2.heap.size := fun i hi => by
    rw [hgi i hi]
    obtain ⟨cur, hc⟩ := (hgt i hi).2.1
    exact lt_of_block hc
  refine ⟨⟨by omega, by omega, fun i hi => ?_, fun i hi e => ?_, fun i hi e => ?_, by omega, fun i j hi hj e => ?_⟩, ⟨?_, fun i hi => ?_, fun i j hi hj => ?_, ?_⟩, ?_⟩
  · rw [hgi i hi]; have := (hgt i hi).1; omega
  · have := hlt2 i hi; omega
  · have e2 := e
    rw [hgi i hi] at e2
    obtain ⟨cur, hc⟩ := (hgt i hi).2.1
    rw [e2, hRh] at hc
    injection hc with hc
    injection hc with _ hc
    exact absurd hc (by decide)
  · rw [hgi i hi, hgi j hj] at e
    have hn := List.pairwise_iff_getElem.1 h4
    by_cases hij : i = j
    · exact hij
    · exfalso
      rcases Nat.lt_or_gt_of_ne hij with h | h
      · have := hn i j (by simp; omega) (by simp; omega) h
        simp at this
        exact this e
      · have := hn j i (by simp; omega) (by simp; omega) h
        simp at this
        exact this e.symm
  · rw [hW]; exact BL.new' w3 _ _
  · have hc := hown.cellAt i (by omega)
    rw [List.getElem?_map, List.getElem?_eq_getElem (show i < items.length by omega)] at hc
    rw [hbw.cell (by show R < _; omega), hb3.cell (by exact hRl), hc]
    dsimp only
    rw [hgi i hi]
    show some (RowIt.val _) = _
    rw [RowIt.shape, hrow i hi, rowZ_len hzl hi]
  · obtain ⟨c, f⟩ := (hgt i hi).2.2 j hj
    have hl := hlt2 i hi
    dsimp only
    rw [hgi i hi] at hl ⊢
    exact ⟨by rw [hbw.cell (by exact Nat.lt_of_lt_of_le hl hs23), hb3.cell (by exact hl), c], by rw [hbw.frozen (by exact Nat.lt_of_lt_of_le hl hs23), hb3.frozen (by exact hl), f]⟩
  · exact hb.trans ((hb3.mono hsw).trans (hbw.mono (by omega)))
  · have := hbw.size; omega
/-- The table behind k columns. -/
def barT (M : Nat → Nat → Int) (k a b : Nat) : Int := bar M (min a k) a b
theorem barT_upd (M : Nat → Nat → Int) (k m a b : Nat) (ha : a < m) : updT (barT M k) (fun i j => bar M (k + 1) i j) k m 0 a b = barT M (k + 1) a b := by
  unfold updT barT
  by_cases h : (k < a ∧ a < m) ∨ (a = m ∧ b < 0)
  · rw [if_pos h, show min a (k + 1) = k + 1 by omega]
  · rw [if_neg h, show min a k = min a (k + 1) by omega]
end Go.Proofs.YtjfggodnfoknfaaGreatDoor

namespace Go.Proofs.YtjfggodnfoknfaaGreatDoor
open Go.RowKit
theorem abs_mul_le {a b : Int} {x y : Nat} (ha : a.natAbs ≤ x) (hb : b.natAbs ≤ y) : (a * b).natAbs ≤ x * y := by rw [Int.natAbs_mul]; exact Nat.mul_le_mul ha hb
theorem dt2_bd {a b c d : Int} (ha : a.natAbs ≤ 8) (hb : b.natAbs ≤ 8) (hc : c.natAbs ≤ 8) (hd : d.natAbs ≤ 8) : (dt2 a b c d).natAbs ≤ 128 := by
  have h1 := abs_mul_le ha hd
  have h2 := abs_mul_le hb hc
  unfold dt2
  omega
theorem dt3_bd {a b c d e f g h i : Int} (ha : a.natAbs ≤ 8) (hb : b.natAbs ≤ 8) (hc : c.natAbs ≤ 8) (hd : d.natAbs ≤ 8) (he : e.natAbs ≤ 8) (hf : f.natAbs ≤ 8) (hg : g.natAbs ≤ 8) (hh : h.natAbs ≤ 8) (hi : i.natAbs ≤ 8) : (dt3 a b c d e f g h i).natAbs ≤ 3072 := by
  have h1 := abs_mul_le ha (dt2_bd he hf hh hi)
  have h2 := abs_mul_le hb (dt2_bd hd hf hg hi)
  have h3 := abs_mul_le hc (dt2_bd hd he hg hh)
  unfold dt2 at h1 h2 h3
  unfold dt3
  omega
theorem bar_bd2 {M : Nat → Nat → Int} (h : ∀ i j, (M i j).natAbs ≤ 8) {k : Nat} (hk : k ≤ 2) (i j : Nat) : (bar M k i j).natAbs ≤ 3072 := by
  rcases (by omega : k = 0 ∨ k = 1 ∨ k = 2) with rfl | rfl | rfl
  · have := h i j; simp only [bar]; omega
  · have := dt2_bd (h 0 0) (h 0 j) (h i 0) (h i j); simp only [bar]; omega
  · simp only [bar]; exact dt3_bd (h _ _) (h _ _) (h _ _) (h _ _) (h _ _) (h _ _) (h _ _) (h _ _) (h _ _)
theorem bar_bd {M : Nat → Nat → Int} (h : ∀ i j, (M i j).natAbs ≤ 8) (k i j : Nat) : (bar M k i j).natAbs ≤ 98304 := by
  by_cases hk : k ≤ 2
  · have := bar_bd2 h hk i j; omega
  · obtain ⟨k, rfl⟩ : ∃ q, k = q + 3 := ⟨k - 3, by omega⟩
    have h1 := abs_mul_le (h 0 0) (dt3_bd (h 1 1) (h 1 2) (h 1 j) (h 2 1) (h 2 2) (h 2 j) (h i 1) (h i 2) (h i j))
    have h2 := abs_mul_le (h 0 1) (dt3_bd (h 1 0) (h 1 2) (h 1 j) (h 2 0) (h 2 2) (h 2 j) (h i 0) (h i 2) (h i j))
    have h3 := abs_mul_le (h 0 2) (dt3_bd (h 1 0) (h 1 1) (h 1 j) (h 2 0) (h 2 1) (h 2 j) (h i 0) (h i 1) (h i j))
    have h4 := abs_mul_le (h 0 j) (dt3_bd (h 1 0) (h 1 1) (h 1 2) (h 2 0) (h 2 1) (h 2 2) (h i 0) (h i 1) (h i 2))
    simp only [bar]
    omega
theorem barP_bd {M : Nat → Nat → Int} (h : ∀ i j, (M i j).natAbs ≤ 8) (k : Nat) : (barP M k).natAbs ≤ 98304 := by
  cases k with
  | zero => show (1 : Int).natAbs ≤ 98304; decide
  | succ k => exact bar_bd h k k k
theorem col_step {X R m capR k : Nat} {g cp : Nat → Nat} {M : Nat → Nat → Int} {w0 w : World} (hs : ElS w0.heap.size X R m g) (he : ELT w0.heap.size w0 X R m capR g cp (barP M k) k (barT M k) w) (hB : w0.heap.size ≤ w.heap.size) (hk : k < m) (hm : m ≤ 4) (hcap : m ≤ capR)
    (hM : ∀ i j, (M i j).natAbs ≤ 8) (hdet : ∀ k, k ≤ m → detN k M ≠ 0) (ht : TB w0) :
    Calls Tryz.prog 130 #[.pointer (some ⟨X, 0, none⟩), .int .i64 (k : Int)] w fun e w' => (∃ v, e = .returned v) ∧ ELT w0.heap.size w0 X R m capR g cp (barP M (k + 1)) (k + 1) (barT M (k + 1)) w' ∧ w0.heap.size ≤ w'.heap.size := by
  have hkk : barT M k k k = bar M k k k := by unfold barT; rw [Nat.min_self]
  refine (column_any X R m capR k g cp (barP M k) (barT M k) (fun i j => bar M (k + 1) i j) w0 w hs he hB hk hm hcap ?_ ?_ ?_ ?_ ?_ ht).mono ?_
  · rw [hkk, bar_det M k (by omega)]; exact hdet (k + 1) hk
  · intro i j _ _; have := bar_bd hM (min i k) i j; unfold barT; omega
  · have := barP_bd hM k; omega
  · rw [barP_det M k (by omega)]; exact hdet k (by omega)
  · intro i j h1 h2 h3
    have e1 : barT M k i j = bar M k i j := by unfold barT; rw [show min i k = k by omega]
    have e2 : barT M k i k = bar M k i k := by unfold barT; rw [show min i k = k by omega]
    have e3 : barT M k k j = bar M k k j := by unfold barT; rw [Nat.min_self]
    rw [e1, e2, e3, hkk]
    refine ⟨bar_step M k i j (by omega), ?_⟩
    have b1 := abs_mul_le (bar_bd2 hM (show k ≤ 2 by omega) i j) (bar_bd2 hM (show k ≤ 2 by omega) k k)
    have b2 := abs_mul_le (bar_bd2 hM (show k ≤ 2 by omega) i k) (bar_bd2 hM (show k ≤ 2 by omega) k j)
    omega
  · rintro e w' ⟨h1, h2, h3⟩
    refine ⟨h1, ?_, h3⟩
    rw [hkk] at h2
    exact h2.congr fun a b ha _ => barT_upd M k m a b ha
theorem rowsM_any (m cap : Nat) (A : Option Addr) (len : Nat) (w : World) : Calls Tryz.prog 129 #[.agg #[.int .i64 (m : Int), .int .i64 (m : Int), .slice A len cap]] w fun e w' =>
    e = .returned (.func (.func 157) #[] #[.pointer (some ⟨w.heap.size, 0, none⟩)]) ∧ w.alloc (.cells #[.int .i64 (m : Int), .int .i64 (m : Int), .slice A len cap] 84) = w' := by
  go_enter Tryz.func129, Tryz.ntmps129
  go_wp2
  go_ret
  exact ⟨rfl, rfl⟩
theorem eliminate_any (v : Value) (m : Nat) (zs : List Int) (w : World) (hv : ZM w v m m zs) (hm : m ≤ 4) (hz : ∀ j, (zs.getD j 0).natAbs ≤ 8) (hdet : ∀ k, k ≤ m → detN k (fun i j => zs.getD (i * m + j) 0) ≠ 0) (ht : TB w) :
    Calls Tryz.prog 91 #[v] w fun e w' => ∃ X vr, e = .returned (.pointer (some ⟨X, 0, none⟩)) ∧ BL w' X 125 [vr, zV (detN m (fun i j => zs.getD (i * m + j) 0)), .int .i64 1, .int .i64 (m : Int), .int .i64 0] ∧ Below w.heap.size w w' := by
  obtain ⟨A, cap, rfl, hrv, hl⟩ := hv
  have hM : ∀ i j, (zs.getD (i * m + j) 0).natAbs ≤ 8 := fun i j => hz _
  obtain ⟨W0, hW0⟩ : ∃ W0, W0 = w.alloc (.cells #[.int .i64 (m : Int), .int .i64 (m : Int), .slice A zs.length cap] 84) := ⟨_, rfl⟩
  obtain ⟨W1, hW1⟩ : ∃ W1, W1 = W0.alloc (.cells #[.int .i64 (m : Int), .int .i64 (m : Int), .slice A zs.length cap] 84) := ⟨_, rfl⟩
  have hb0 : Below w.heap.size w W0 := by rw [hW0]; exact below_alloc w _
  have hb1 : Below W0.heap.size W0 W1 := by rw [hW1]; exact below_alloc W0 _
  have hb01 := hb0.trans (hb1.mono hb0.size)
  have hbx : BL W0 w.heap.size 84 [.int .i64 (m : Int), .int .i64 (m : Int), .slice A zs.length cap] := by rw [hW0]; exact BL.new' w _ _
  have hcap : zs.length ≤ cap := by obtain ⟨_, _, e, h, _⟩ := hrv; simp only [Value.slice.injEq] at e; rw [e.2.2]; simpa using h
  have hpre : rowPre W0.heap.size W1.heap.size m cap A zs W1 := by
    refine ⟨by rw [hW1]; exact BL.new' W0 _ _, hrv.below hb01, by rw [hW1]; simp, fun h0 ad h => ?_, Nat.le_refl _⟩
    obtain ⟨ad', h', hb, -⟩ := (hrv.below hb01).cellz h0
    rw [h] at h'
    cases h'
    exact hb
  have HCo := Lib.hid (collectT_any W0.heap.size m cap A zs W1 hl (by omega) hcap hpre)
  have HOf : Hid (∀ W, Below w.heap.size w W → Calls Tryz.prog 92 #[.int .i64 1] W fun e w' => e = .returned (zV 1) ∧ Below W.heap.size W w') := fun W h => iof_any 1 W (by omega) (by omega) (ht.below h)
  obtain ⟨S1, hS1⟩ : ∃ S, zV 1 = .string S := ⟨_, rfl⟩
  rw [hS1] at HOf
  have HS1 := Lib.hid hS1
  have HStep : Hid (∀ (X R capR k : Nat) (g cp : Nat → Nat) (W : World), ElS w.heap.size X R m g → ELT w.heap.size w X R m capR g cp (barP (fun i j => zs.getD (i * m + j) 0) k) k (barT (fun i j => zs.getD (i * m + j) 0) k) W → w.heap.size ≤ W.heap.size → k < m → m ≤ capR →
      Calls Tryz.prog 130 #[.pointer (some ⟨X, 0, none⟩), .int .i64 (k : Int)] W fun e w' => (∃ v, e = .returned v) ∧ ELT w.heap.size w X R m capR g cp (barP (fun i j => zs.getD (i * m + j) 0) (k + 1)) (k + 1) (barT (fun i j => zs.getD (i * m + j) 0) (k + 1)) w' ∧ w.heap.size ≤ w'.heap.size) := fun X R capR k g cp W hs he hB hk hc =>
    col_step hs he hB hk hm hc hM hdet ht
  have HDet : Hid (barP (fun i j => zs.getD (i * m + j) 0) m = detN m (fun i j => zs.getD (i * m + j) 0)) := barP_det _ m (by omega)
  have HD0 : Hid (detN 0 (fun i j => zs.getD (i * 0 + j) 0) = 1) := rfl
  have HRo := Lib.hid (rowsM_any m cap A zs.length W0)
  have HBX := Lib.hid (hbx.bel hb1)
  have HB0 := Lib.hid hb0
  have HB1 := Lib.hid hb01
  have HW0 := Lib.hid hW0
  have HW1 := Lib.hid hW1
  have HZL := Lib.hid hl
  have c0 := hbx.cell 0
  have c1 := hbx.cell 1
  have c2 := hbx.cell 2
  clear hrv hl hz hdet ht hM hb0 hb1 hb01 hbx hcap hpre hW0 hW1 hS1
  go_enter Tryz.func91, Tryz.ntmps91
  go_wp2_with fail
  rw [← HW0.out]
  refine HRo.out.mono ?_
  rintro e w1 ⟨rfl, rfl⟩
  rw [← HW1.out]
  go_wp2_with fail
  refine HCo.out.mono ?_
  rintro e w2 ⟨v, items, rfl, r1, r2, ⟨r3, r4⟩, r5⟩
  have HBw := Lib.hid (HB1.out.trans (r5.mono HB1.out.size))
  by_cases hm1 : 1 ≤ m
  · obtain ⟨R, capR, g, cp, rfl, hmc, hst⟩ := el_start r1 r2 r3 r4 HBw.out HB1.out.size hm1 HZL.out
    clear r1 r2 r3 r4
    go_wp2_with fail
    refine (HOf.out w2 HBw.out).mono ?_
    rintro e w3 ⟨rfl, hb3⟩
    obtain ⟨W4, hW4⟩ : ∃ W4, W4 = w3.alloc (.cells #[.slice (some ⟨R, 0, none⟩) m capR, .string S1, .int .i64 1, .int .i64 0, .int .i64 0] 125) := ⟨_, rfl⟩
    rw [HS1.out] at hst
    obtain ⟨hs, hel, hsz⟩ := hst.out w3 W4 hb3 hW4
    have HEs := Lib.hid hs
    have HEl : Hid (ELT w.heap.size w w3.heap.size R m capR g cp (barP (fun i j => zs.getD (i * m + j) 0) 0) 0 (barT (fun i j => zs.getD (i * m + j) 0) 0) W4) := hel.congr fun a b _ _ => by unfold barT; rw [show min a 0 = 0 by omega]; rfl
    have HSz := Lib.hid hsz
    have hbx4 := ((HBX.out.bel r5).bel hb3).alloc (.cells #[.slice (some ⟨R, 0, none⟩) m capR, .string S1, .int .i64 1, .int .i64 0, .int .i64 0] 125)
    have k1 : (w3.alloc (.cells #[.slice (some ⟨R, 0, none⟩) m capR, .string S1, .int .i64 1, .int .i64 0, .int .i64 0] 125)).cell? ⟨w.heap.size, 1, none⟩ = some (.int .i64 (m : Int)) := hbx4.cell 1
    have HW4 := Lib.hid hW4
    clear hs hel hsz hst hW4 c0 c1 c2 hbx4 hb3 r5
    go_wp2_with fail
    rw [← HW4.out]
    clear k1
    go_loopw [13] (fun kk wr => ∃ k : Nat, k ≤ m ∧ kk = .int .i64 (k : Int) ∧ Hid (ELT w.heap.size w w3.heap.size R m capR g cp (barP (fun i j => zs.getD (i * m + j) 0) k) k (barT (fun i j => zs.getD (i * m + j) 0) k) wr) ∧ Hid (w.heap.size ≤ wr.heap.size)) (fun kk _ => m - (intOf kk).toNat)
    case atStart => exact ⟨0, Nat.zero_le _, rfl, HEl.out, HSz.out⟩
    case round =>
      obtain ⟨k, hk, rfl, hel, hsz⟩ := hrel
      by_cases hlt : k < m
      · have HC := Lib.hid (HStep.out _ R capR k g cp wr HEs.out hel.out hsz.out hlt hmc)
        go_wp2_with fail
        refine HC.out.mono ?_
        rintro e w5 ⟨⟨v5, rfl⟩, hel5, hsz5⟩
        have HE5 := Lib.hid hel5
        have HS5 := Lib.hid hsz5
        clear hel5 hsz5
        go_wp2
        go_roundw
        case rel => exact ⟨k + 1, by omega, by go_num, HE5.out, HS5.out⟩
        case measure => simp [intOf]; omega
      · obtain rfl : k = m := by omega
        have he := hel.out
        have HFb := Lib.hid he.1
        have HFw := Lib.hid he.2.2.2
        clear he
        go_wp2
        go_ret
        exact ⟨_, _, rfl, by rw [← HDet.out]; exact HFb.out, HFw.out⟩
  · obtain rfl : m = 0 := by omega
    obtain ⟨A9, c9, rfl, -⟩ := r1.rv
    rw [List.length_map] at r1 ⊢
    have k1' := HBX.out.bel r5
    clear r1 r2 r3 r4
    go_wp2_with fail
    refine (HOf.out w2 HBw.out).mono ?_
    rintro e w3 ⟨rfl, hb3⟩
    have hbx4 := (k1'.bel hb3).alloc (.cells #[.slice A9 items.length c9, .string S1, .int .i64 1, .int .i64 0, .int .i64 0] 125)
    have k1 : (w3.alloc (.cells #[.slice A9 items.length c9, .string S1, .int .i64 1, .int .i64 0, .int .i64 0] 125)).cell? ⟨w.heap.size, 1, none⟩ = some (.int .i64 0) := hbx4.cell 1
    have hres := BL.new' w3 #[.slice A9 items.length c9, .string S1, .int .i64 1, .int .i64 0, .int .i64 0] 125
    have HRes := Lib.hid hres
    have HB3 := Lib.hid (HBw.out.trans ((hb3.trans ((below_alloc w3 (.cells #[.slice A9 items.length c9, .string S1, .int .i64 1, .int .i64 0, .int .i64 0] 125)).mono hb3.size)).mono HBw.out.size))
    clear hbx4 hres hb3 k1' r5 c0 c1 c2
    go_wp2_with fail
    refine wp_loop_rounds 1 ?_
    rw [rounds_succ]
    go_wp2
    go_ret
    exact ⟨_, _, rfl, by rw [HD0.out, HS1.out]; exact HRes.out, HB3.out⟩
end Go.Proofs.YtjfggodnfoknfaaGreatDoor

namespace Go.Proofs.YtjfggodnfoknfaaGreatDoor
open Go.RowKit
theorem det_any (v : Value) (m : Nat) (zs : List Int) (w : World) (hv : ZM w v m m zs) (hm : m ≤ 4) (hz : ∀ j, (zs.getD j 0).natAbs ≤ 8) (hdet : ∀ k, k ≤ m → detN k (fun i j => zs.getD (i * m + j) 0) ≠ 0) (ht : TB w) :
    Calls Tryz.prog 55 #[v] w fun e w' => e = .returned (.tuple #[zV (detN m (fun i j => zs.getD (i * m + j) 0)), .int .i64 0]) ∧ Below w.heap.size w w' := by
  obtain ⟨A, cap, rfl, hrv, hl⟩ := hv
  have hb0 := below_alloc w (.cells #[.int .i64 (m : Int), .int .i64 (m : Int), .slice A zs.length cap] 84)
  have hbl := BL.new' w #[.int .i64 (m : Int), .int .i64 (m : Int), .slice A zs.length cap] 84
  have HC := Lib.hid (mcheck_any (.agg #[.int .i64 (m : Int), .int .i64 (m : Int), .slice A zs.length cap]) m m zs (w.alloc (.cells #[.int .i64 (m : Int), .int .i64 (m : Int), .slice A zs.length cap] 84)) ⟨A, cap, rfl, hrv.below hb0, hl⟩ (by omega) (by omega) (fun j => by have := hz j; omega))
  have HE : Hid (∀ W, Below w.heap.size w W → Calls Tryz.prog 91 #[.agg #[.int .i64 (m : Int), .int .i64 (m : Int), .slice A zs.length cap]] W fun e w' => ∃ X vr, e = .returned (.pointer (some ⟨X, 0, none⟩)) ∧ BL w' X 125 [vr, zV (detN m (fun i j => zs.getD (i * m + j) 0)), .int .i64 1, .int .i64 (m : Int), .int .i64 0] ∧ Below W.heap.size W w') := fun W h =>
    eliminate_any _ m zs W ⟨A, cap, rfl, hrv.below h, hl⟩ hm hz hdet (ht.below h)
  generalize detN m (fun i j => zs.getD (i * m + j) 0) = d at *
  obtain ⟨Sd, hSd⟩ : ∃ S, zV d = .string S := ⟨_, rfl⟩
  rw [hSd] at HE ⊢
  have t1 : ((m : Int) != (m : Int)) = false := by simp
  have HBL := Lib.hid hbl
  have HB0 := Lib.hid hb0
  have c0 : (w.alloc (.cells #[.int .i64 (m : Int), .int .i64 (m : Int), .slice A zs.length cap] 84)).cell? ⟨w.heap.size, 0, none⟩ = some (.int .i64 (m : Int)) := hbl.cell 0
  clear hrv hl hm hz hdet ht hb0 hbl hSd
  go_enter Tryz.func55, Tryz.ntmps55
  go_wp2_with fail
  refine HC.out.mono ?_
  rintro e w2 ⟨rfl, hb2⟩
  have b2 := HBL.out.bel hb2
  have HB2 := Lib.hid (HB0.out.trans (hb2.mono HB0.out.size))
  have k0 : w2.cell? ⟨w.heap.size, 0, none⟩ = some (.int .i64 (m : Int)) := b2.cell 0
  have k1 : w2.cell? ⟨w.heap.size, 1, none⟩ = some (.int .i64 (m : Int)) := b2.cell 1
  have k2 : w2.cell? ⟨w.heap.size, 2, none⟩ = some (.slice A zs.length cap) := b2.cell 2
  have HBL2 := Lib.hid b2
  clear c0 b2 hb2
  go_wp2_with fail
  refine (HE.out w2 HB2.out).mono ?_
  rintro e w3 ⟨X, vr, rfl, hx, hb3⟩
  have b3 := HBL2.out.bel hb3
  have j0 : w3.cell? ⟨w.heap.size, 0, none⟩ = some (.int .i64 (m : Int)) := b3.cell 0
  have x1 : w3.cell? ⟨X, 1, none⟩ = some (.string Sd) := hx.cell 1
  have x2 : w3.cell? ⟨X, 2, none⟩ = some (.int .i64 1) := hx.cell 2
  have x3 : w3.cell? ⟨X, 3, none⟩ = some (.int .i64 (m : Int)) := hx.cell 3
  have x4 : w3.cell? ⟨X, 4, none⟩ = some (.int .i64 0) := hx.cell 4
  have HB3 := Lib.hid (HB2.out.trans (hb3.mono HB2.out.size))
  clear k0 k1 k2 b3 hb3 hx
  go_wp2_with fail
  go_quiet (first | (fail))
  go_wp2
  go_ret2
  exact ⟨rfl, below_drewN HB3.out _⟩
end Go.Proofs.YtjfggodnfoknfaaGreatDoor

namespace Go.Proofs.YtjfggodnfoknfaaGreatDoor
open Go.RowKit Go.Shelf
attribute [local go_sem] Oper.semAt_some
/-- The edges that are no loops. -/
def nonL (es : List Tri) : List Tri := es.filter fun t => decide (t.1 ≠ t.2.1)
theorem nonL_take {es : List Tri} {k : Nat} {t : Tri} (h : Hid (es[k]? = some t)) : nonL (es.take (k + 1)) = nonL (es.take k) ++ nonL [t] := by
  rw [take_tri h]; unfold nonL; rw [List.filter_append]
theorem nonL_split {es : List Tri} {k : Nat} {t : Tri} (h : Hid (es[k]? = some t)) : nonL es = nonL (es.take k) ++ (nonL [t] ++ nonL (es.drop (k + 1))) := by
  have e : es = es.take k ++ ([t] ++ es.drop (k + 1)) := by
    have := drop_at h
    rw [show [t] ++ es.drop (k + 1) = t :: es.drop (k + 1) from rfl, ← this, List.take_append_drop]
  conv => lhs; rw [e]
  unfold nonL
  rw [List.filter_append, List.filter_append]
/-- What a round keeps: all blocks below Bk but Z. -/
def keepZ (Bk Z : Nat) (A C : World) : Prop := A.heap.size ≤ C.heap.size ∧ ∀ k, k < Bk → k ≠ Z → C.heap[k]? = A.heap[k]?
def lkPre (hx Bk Z : Nat) (n : Nat) (ve : Value) (es : List Tri) (eb : Nat) (W : World) : Prop :=
  BL W hx 24 [.int .i64 (n : Int), ve] ∧ EB W ve es eb ∧ hx < Bk ∧ hx ≠ Z ∧ eb < Bk ∧ eb ≠ Z ∧ Bk ≤ W.heap.size
theorem lkPre.keep {hx Bk Z n eb : Nat} {ve : Value} {es : List Tri} {W W' : World} (h : lkPre hx Bk Z n ve es eb W) (hk : keepZ Bk Z W W') : lkPre hx Bk Z n ve es eb W' := by
  obtain ⟨h1, h2, h3, h4, h5, h6, h7⟩ := h
  exact ⟨(hk.2 _ h3 h4).trans h1, h2.keep hk.1 (hk.2 _ h5 h6), h3, h4, h5, h6, Nat.le_trans h7 hk.1⟩
theorem lkPre.below {hx Bk Z n eb : Nat} {ve : Value} {es : List Tri} {W W' : World} (h : lkPre hx Bk Z n ve es eb W) (hb : Below W.heap.size W W') : lkPre hx Bk Z n ve es eb W' :=
  h.keep ⟨hb.size, fun k hk _ => hb.block k (Nat.lt_of_lt_of_le hk h.2.2.2.2.2.2)⟩
def triV (x : Tri) : Value := .agg #[.int .i64 x.1, .int .i64 x.2.1, .int .i64 x.2.2]
theorem lk1_iter (hx Bk Z n eb : Nat) (ve : Value) (es : List Tri) :
    IterC Tryz.prog 175 #[.pointer (some ⟨hx, 0, none⟩)] (fun x : Tri => #[triV x]) (fun pre x _ => ∃ rest, pre ++ x :: rest = nonL es)
      (fun A B => Below A.heap.size A B) (keepZ Bk Z) (fun xs => xs = nonL es) (fun _ => True) (lkPre hx Bk Z n ve es eb) := by
  intro N l J Jx W hpre hJ hJx hY h0
  have HJ := Lib.hid hJ
  have HY := Lib.hid hY
  have HP := Lib.hid hpre
  obtain ⟨A, c, rfl, hlc, hc, -⟩ := hpre.2.1.1
  have s1 : W.cell? ⟨hx, 1, none⟩ = some (.slice A es.length c) := BL.cell hpre.1 1
  clear hJ hY hpre hJx
  refine callsIn_of_wp Tryz.func175 rfl trivial ?_ rfl
  simp only [Tryz.ntmps175, List.size_toArray, List.length_cons, List.length_nil, Nat.reduceAdd, Nat.reduceSub, Array.replicate_succ, Array.replicate_zero, List.push_toArray, List.append_toArray, List.nil_append, List.cons_append]
  gi_wp2
  clear s1
  gi_loopg [8] es.length (fun k i wr => ∃ (j : Nat) (pre : List Tri), Hid (j + k = es.length) ∧ i = .int .i64 j ∧ Hid (J pre wr) ∧ Hid (pre = nonL (es.take j)) ∧ Hid (lkPre hx Bk Z n (.slice A es.length c) es eb wr))
  case atStart => exact ⟨0, [], by (show 0 + _ = _; omega), rfl, h0, rfl, HP.out⟩
  case round =>
    obtain ⟨j, pre, hjk, rfl, hj, hp, hpr⟩ := hrel
    by_cases hlt : j < es.length
    · obtain ⟨A', c', he, -, -, hcell⟩ := hpr.out.2.1.1
      simp only [Value.slice.injEq, true_and] at he
      obtain ⟨rfl, rfl⟩ := he
      obtain ⟨ad, a, a2, m, rfl, hab, ht, c1, c2, c3⟩ := hcell j hlt
      have HT1 := Lib.hid (nonL_take ht)
      have HT2 := Lib.hid (nonL_split ht)
      clear hcell ht
      have HJ1 := Lib.hid (HJ.out pre wr _ hj.out (below_alloc wr (.cells #[.int .i64 a, .int .i64 a2, .int .i64 m] 54)))
      have HP1 := Lib.hid (hpr.out.below (below_alloc wr (.cells #[.int .i64 a, .int .i64 a2, .int .i64 m] 54)))
      by_cases hxy : a = a2
      · subst hxy
        have t1 : ((a : Int) != a) = false := by simp
        have H1 : Hid (nonL (es.take (j + 1)) = nonL (es.take j)) := by
          show _ = _; rw [HT1.out]; simp [nonL]
        gi_wp2
        refine ⟨fun f h => (by cases h), ?_⟩
        gi_wp2
        gi_roundg (gk - 1)
        case measure => have := hjk.out; omega
        case rel => exact ⟨j + 1, pre, by have := hjk.out; show _ = _; omega, by go_num, HJ1.out, by show _ = _; rw [hp.out, H1.out], HP1.out⟩
      · have t1 : ((a : Int) != a2) = true := by simp [hxy]
        have H1 : Hid (nonL (es.take (j + 1)) = nonL (es.take j) ++ [((a, a2, m) : Tri)]) := by
          show _ = _; rw [HT1.out]; simp [nonL, hxy]
        have H2 : Hid (∃ rest, nonL (es.take j) ++ ((a, a2, m) : Tri) :: rest = nonL es) := by
          refine ⟨nonL (es.drop (j + 1)), ?_⟩
          rw [HT2.out]; simp [nonL, hxy]
        obtain ⟨fn, tmps, assign, body, hy, hRd⟩ := HY.out pre (a, a2, m) _ HJ1.out (by rw [hp.out]; exact H2.out)
        dsimp only [triV] at hy hRd
        have HR := Lib.hid hRd
        clear hRd HJ1 H2
        gi_wp2_with fail
        refine ⟨fun h => (by simp [Fence.wide] at h), HR.out.mono ?_⟩
        rintro e W2 (⟨rfl, hJ2, hk2⟩ | ⟨rfl, hJx2⟩)
        · have HJ2 := Lib.hid hJ2
          have HK2 := Lib.hid hk2
          clear hJ2 hk2 hy
          gi_wp2
          gi_roundg (gk - 1)
          case measure => have := hjk.out; omega
          case rel => exact ⟨j + 1, pre ++ [((a, a2, m) : Tri)], by have := hjk.out; show _ = _; omega, by go_num, HJ2.out, by show _ = _; rw [hp.out, H1.out], HP1.out.keep HK2.out⟩
        · clear hy
          gi_wp2
          refine bodyPost_ret (results_none rfl _ _ _) rfl ?_
          exact ⟨⟨_, rfl⟩, .inr ⟨pre ++ [((a, a2, m) : Tri)], trivial, hJx2⟩⟩
    · have hje : es.take j = es := List.take_of_length_le (by omega)
      rw [hje] at hp
      have HPE := hp
      clear hje
      gi_wp2
      go_end0
      exact ⟨⟨_, rfl⟩, .inl ⟨pre, HPE.out, hj.out⟩⟩
end Go.Proofs.YtjfggodnfoknfaaGreatDoor

