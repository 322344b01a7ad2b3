/- Plain law: the effective divisors of a degree in ascending order, their number, and the step from one to the next. -/
import Derived.Test.YtcmkllfocifnlaaChipK
namespace Go.Proofs.Ytcmkllfocifnlaa

def incHead : List Int → List Int
  | [] => []
  | a :: r => (a + 1) :: r
def compsS (prev : Nat → List (List Int)) (n : Nat) : Nat → List (List Int)
  | 0 => [List.replicate (n + 2) 0]
  | k + 1 => (prev (k + 1)).map (fun r => (0 : Int) :: r) ++ (compsS prev n k).map incHead
/-- The compositions of k into n + 1 parts, ascending. -/
def comps : Nat → Nat → List (List Int)
  | 0, k => [[(k : Int)]]
  | n + 1, k => compsS (comps n) n k
theorem comps_zero (k : Nat) : comps 0 k = [[(k : Int)]] := rfl
theorem comps_succ_zero (n : Nat) : comps (n + 1) 0 = [List.replicate (n + 2) 0] := rfl
theorem comps_succ (n k : Nat) : comps (n + 1) (k + 1) = (comps n (k + 1)).map (fun r => (0 : Int) :: r) ++ (comps (n + 1) k).map incHead := rfl

def firstC (n k : Nat) : List Int := List.replicate n 0 ++ [(k : Int)]
def lastC (n k : Nat) : List Int := (k : Int) :: List.replicate n 0

def stepR : List Int → Option (List Int)
  | [] => none
  | a :: r => match stepR r with
    | some r' => some (a :: r')
    | none => if r.headD 0 = 0 then none else some ((a + 1) :: (List.replicate (r.length - 1) 0 ++ [r.headD 0 - 1]))

theorem stepR_cons (a : Int) (r : List Int) : stepR (a :: r) = match stepR r with
    | some r' => some (a :: r')
    | none => if r.headD 0 = 0 then none else some ((a + 1) :: (List.replicate (r.length - 1) 0 ++ [r.headD 0 - 1])) := rfl
theorem downTo_zero {zs : List Int} {j : Nat} (h : ∀ i, 1 ≤ i → i ≤ j → zs.getD i 0 = 0) : downTo zs j = 0 := by
  induction j with
  | zero => rfl
  | succ j ih => simp only [downTo]; rw [if_pos (h (j + 1) (by omega) (Nat.le_refl _))]; exact ih fun i h1 h2 => h i h1 (by omega)
theorem downTo_spec (zs : List Int) (j : Nat) : (downTo zs j ≠ 0 → zs.getD (downTo zs j) 0 ≠ 0) ∧ ∀ i, downTo zs j < i → i ≤ j → zs.getD i 0 = 0 := by
  induction j with
  | zero => exact ⟨fun h => absurd rfl h, fun i h1 h2 => by simp [downTo] at h1; omega⟩
  | succ j ih =>
    simp only [downTo]
    split
    · rename_i h
      refine ⟨ih.1, fun i h1 h2 => ?_⟩
      by_cases e : i = j + 1
      · subst e; exact h
      · exact ih.2 i h1 (by omega)
    · rename_i h
      exact ⟨fun _ => h, fun i h1 h2 => by omega⟩
theorem downTo_unique {zs : List Int} {j m : Nat} (hm : m ≤ j) (_ : m ≠ 0) (h1 : zs.getD m 0 ≠ 0) (h2 : ∀ i, m < i → i ≤ j → zs.getD i 0 = 0) : downTo zs j = m := by
  have hs := downTo_spec zs j
  have hl := downTo_le zs j
  rcases Nat.lt_trichotomy (downTo zs j) m with h | h | h
  · exact absurd (hs.2 m h hm) h1
  · exact h
  · exact absurd (h2 _ h hl) (hs.1 (by omega))

/-- The step by the place: where no later place holds chips. -/
theorem stepR_none {zs : List Int} (h : ∀ i, 1 ≤ i → zs.getD i 0 = 0) : stepR zs = none := by
  induction zs with
  | nil => rfl
  | cons a r ih =>
    have hr : stepR r = none := ih fun i hi => by have := h (i + 1) (by omega); simpa using this
    have h0 : r.headD 0 = 0 := by have := h 1 (Nat.le_refl _); cases r <;> simp_all
    rw [stepR_cons, hr]; simp only [h0, if_true]
theorem stepR_at {zs : List Int} {j : Nat} (hj : zs.getD (j + 1) 0 ≠ 0) (h : ∀ i, j + 1 < i → zs.getD i 0 = 0) :
    stepR zs = some (((zs.set (j + 1) 0).set j (zs.getD j 0 + 1)).set (zs.length - 1) (zs.getD (j + 1) 0 - 1)) := by
  induction zs generalizing j with
  | nil => simp at hj
  | cons a r ih =>
    cases j with
    | zero =>
      have hr : stepR r = none := stepR_none fun i hi => by have := h (i + 1) (by omega); simpa using this
      obtain ⟨b, r', rfl⟩ : ∃ b r', r = b :: r' := by cases r with | nil => simp at hj | cons b r' => exact ⟨b, r', rfl⟩
      have hb : b ≠ 0 := by simpa using hj
      rw [stepR_cons, hr]
      simp only [List.headD_cons, hb, if_false, List.length_cons]
      have hz : r' = List.replicate r'.length 0 := by
        apply List.ext_getElem
        · simp
        · intro i h1 h2
          have := h (i + 2) (by omega)
          simp [List.getD_eq_getElem?_getD, List.getElem?_eq_getElem h1] at this
          simp [this]
      simp only [List.set_cons_zero, List.set_cons_succ, List.getD_cons_zero, List.getD_cons_succ, Nat.add_sub_cancel]
      congr 2
      rw [show 0 :: r' = List.replicate (r'.length + 1) (0 : Int) by rw [List.replicate_succ, ← hz]]
      apply List.ext_getElem
      · simp
      · intro i h1 h2
        simp only [List.getElem_append, List.length_replicate, List.getElem_replicate, List.getElem_set, List.getElem_singleton]
        simp only [List.length_append, List.length_replicate, List.length_singleton] at h1
        by_cases e : r'.length = i
        · simp [e]
        · simp [e, show i < r'.length by omega]
    | succ j =>
      have hr := ih (j := j) (by simpa using hj) (fun i hi => by have := h (i + 1) (by omega); simpa using this)
      have hl : 1 ≤ r.length := by cases r with | nil => simp at hj | cons => simp
      rw [stepR_cons, hr]
      simp only [List.set_cons_succ, List.getD_cons_succ, List.length_cons, Nat.add_sub_cancel]
      obtain ⟨m, hm⟩ : ∃ m, r.length = m + 1 := ⟨r.length - 1, by omega⟩
      rw [hm]
      simp [List.set_cons_succ]

theorem stepL_eq (zs : List Int) : stepL zs = stepR zs := by
  unfold stepL
  have hs := downTo_spec zs (zs.length - 1)
  have hout : ∀ i, zs.length - 1 < i → zs.getD i 0 = 0 := fun i hi => by rw [List.getD_eq_getElem?_getD, List.getElem?_eq_none (by omega)]; rfl
  generalize hj : downTo zs (zs.length - 1) = j at *
  cases j with
  | zero =>
    rw [stepR_none fun i hi => by
      by_cases h : i ≤ zs.length - 1
      · exact hs.2 i (by omega) h
      · exact hout i (by omega)]
    rfl
  | succ j =>
    rw [stepR_at (j := j) (hs.1 (by omega)) fun i hi => by
      by_cases h : i ≤ zs.length - 1
      · exact hs.2 i hi h
      · exact hout i (by omega)]
    rfl

theorem stepR_incHead (x : List Int) : stepR (incHead x) = (stepR x).map incHead := by
  cases x with
  | nil => rfl
  | cons a r =>
    simp only [incHead]
    rw [stepR_cons, stepR_cons]
    cases stepR r with
    | some r' => rfl
    | none => dsimp only; split <;> rfl

/-- Neighbours step to each other; the last one steps to e. -/
def Seg : List (List Int) → Option (List Int) → Prop
  | [], _ => False
  | [x], e => stepR x = e
  | x :: y :: r, e => stepR x = some y ∧ Seg (y :: r) e
theorem Seg.append {A : List (List Int)} {b : List Int} {B : List (List Int)} {e : Option (List Int)} (hA : Seg A (some b)) (hB : Seg (b :: B) e) : Seg (A ++ b :: B) e := by
  induction A with
  | nil => exact hA.elim
  | cons x r ih =>
    cases r with
    | nil => exact ⟨hA, hB⟩
    | cons y r => exact ⟨hA.1, ih hA.2⟩
theorem Seg.inc {A : List (List Int)} {e : Option (List Int)} (hA : Seg A e) : Seg (A.map incHead) (e.map incHead) := by
  induction A with
  | nil => exact hA
  | cons x r ih =>
    cases r with
    | nil => show stepR (incHead x) = _; rw [stepR_incHead, show stepR x = e from hA]
    | cons y r => exact ⟨by rw [stepR_incHead, hA.1]; rfl, ih hA.2⟩
theorem Seg.cons0 {A : List (List Int)} {l : List Int} (hA : Seg A none) (hl : A.getLast? = some l) : Seg (A.map (fun r => (0 : Int) :: r)) (stepR (0 :: l)) := by
  induction A with
  | nil => exact hA.elim
  | cons x r ih =>
    cases r with
    | nil => simp at hl; subst hl; rfl
    | cons y r => exact ⟨by rw [stepR_cons, hA.1], ih hA.2 (by simpa using hl)⟩

theorem firstC_head (n k : Nat) : (comps n k).head? = some (firstC n k) := by
  induction n generalizing k with
  | zero => rfl
  | succ n ih =>
    cases k with
    | zero => simp [comps_succ_zero, firstC, List.replicate_succ']
    | succ k =>
      rw [comps_succ, List.head?_append, List.head?_map, ih]
      simp [firstC, List.replicate_succ]
theorem lastC_last (n k : Nat) : (comps n k).getLast? = some (lastC n k) := by
  induction k with
  | zero => cases n with
    | zero => rfl
    | succ n => simp [comps_succ_zero, lastC, List.replicate_succ]
  | succ k ih =>
    cases n with
    | zero => rfl
    | succ n =>
      rw [comps_succ, List.getLast?_append, List.getLast?_map, ih]
      simp [lastC, incHead]
theorem stepR_zeros (n : Nat) : stepR (List.replicate n 0) = none := stepR_none fun i _ => by
  rw [List.getD_eq_getElem?_getD, List.getElem?_replicate]; split <;> rfl
theorem stepR_lastC (n k : Nat) : stepR (lastC n k) = none := by
  unfold lastC; rw [stepR_cons, stepR_zeros]
  cases n <;> simp [List.replicate_succ]
theorem comps_seg (n k : Nat) : Seg (comps n k) none := by
  induction n generalizing k with
  | zero => rfl
  | succ n ihn =>
    induction k with
    | zero => exact stepR_zeros _
    | succ k ihk =>
      rw [comps_succ]
      have h2 := ihk.inc
      have hh := firstC_head (n + 1) k
      obtain ⟨r, hr⟩ : ∃ r, comps (n + 1) k = firstC (n + 1) k :: r := by
        cases h : comps (n + 1) k with
        | nil => rw [h] at hh; cases hh
        | cons x r => rw [h] at hh; simp at hh; exact ⟨r, by rw [hh]⟩
      rw [hr] at h2 ⊢
      simp only [List.map_cons] at h2 ⊢
      refine Seg.append ?_ h2
      have h1 := Seg.cons0 (ihn (k + 1)) (lastC_last n (k + 1))
      have e : stepR (0 :: lastC n (k + 1)) = some (incHead (firstC (n + 1) k)) := by
        rw [stepR_cons, stepR_lastC]
        have : ((k : Int) + 1) ≠ 0 := by omega
        simp [lastC, firstC, incHead, List.replicate_succ, this]
      rw [e] at h1
      exact h1
theorem chain_of_seg {zs : List Int} {L : List (List Int)} (h : Seg (zs :: L) none) : IsChain zs (zs :: L) := by
  induction L generalizing zs with
  | nil => exact .one (by rw [stepL_eq]; exact h)
  | cons y r ih => exact .more (by rw [stepL_eq]; exact h.1) (ih h.2)
theorem comps_chain (n k : Nat) : IsChain (firstC n k) (comps n k) := by
  have hh := firstC_head n k
  have hs := comps_seg n k
  cases h : comps n k with
  | nil => rw [h] at hh; cases hh
  | cons x r =>
    rw [h] at hh hs
    simp at hh
    subst hh
    exact chain_of_seg hs

theorem comps_mem {n k : Nat} {zs : List Int} (h : zs ∈ comps n k) : zs.length = n + 1 ∧ zs.sum = k ∧ ∀ z ∈ zs, 0 ≤ z := by
  induction n generalizing k zs with
  | zero =>
    rw [comps_zero, List.mem_singleton] at h
    subst h
    exact ⟨rfl, by simp, fun z hz => by simp at hz; omega⟩
  | succ n ihn =>
    induction k generalizing zs with
    | zero =>
      rw [comps_succ_zero, List.mem_singleton] at h
      subst h
      refine ⟨by simp, by simp, fun z hz => by rw [List.eq_of_mem_replicate hz]; exact Int.le_refl _⟩
    | succ k ihk =>
      rw [comps_succ, List.mem_append, List.mem_map, List.mem_map] at h
      rcases h with ⟨r, hr, rfl⟩ | ⟨r, hr, rfl⟩
      · obtain ⟨h1, h2, h3⟩ := ihn hr
        refine ⟨by simp [h1], by simp [h2], fun z hz => ?_⟩
        rcases List.mem_cons.1 hz with rfl | hz
        · exact Int.le_refl _
        · exact h3 z hz
      · obtain ⟨h1, h2, h3⟩ := ihk hr
        cases r with
        | nil => simp at h1
        | cons a r =>
          simp only [incHead, List.length_cons, List.sum_cons] at *
          refine ⟨h1, by omega, fun z hz => ?_⟩
          rcases List.mem_cons.1 hz with rfl | hz
          · have := h3 a (List.mem_cons_self ..); omega
          · exact h3 z (List.mem_cons_of_mem _ hz)

/-- How many. -/
def cnt (n k : Nat) : Nat := (comps n k).length
theorem cnt_zero (k : Nat) : cnt 0 k = 1 := rfl
theorem cnt_succ_zero (n : Nat) : cnt (n + 1) 0 = 1 := rfl
theorem cnt_succ (n k : Nat) : cnt (n + 1) (k + 1) = cnt n (k + 1) + cnt (n + 1) k := by
  unfold cnt; rw [comps_succ, List.length_append, List.length_map, List.length_map]
theorem cnt_n_zero (n : Nat) : cnt n 0 = 1 := by cases n <;> rfl
theorem cnt_mul (n : Nat) : (∀ k, (n + 1) * cnt (n + 1) k = (k + n + 1) * cnt n k) ∧ (∀ k, (k + 1) * cnt n (k + 1) = (k + n + 1) * cnt n k) := by
  induction n with
  | zero =>
    have h2 : ∀ k, (k + 1) * cnt 0 (k + 1) = (k + 0 + 1) * cnt 0 k := fun k => by simp [cnt_zero]
    refine ⟨fun k => ?_, h2⟩
    induction k with
    | zero => simp [cnt_succ_zero, cnt_zero]
    | succ k ih => rw [cnt_succ, Nat.mul_add, ih, cnt_zero, cnt_zero]; omega
  | succ n ih =>
    have h2 : ∀ k, (k + 1) * cnt (n + 1) (k + 1) = (k + (n + 1) + 1) * cnt (n + 1) k := fun k => by
      rw [cnt_succ, Nat.mul_add, ih.2 k, ← ih.1 k, ← Nat.add_mul]; congr 1; omega
    refine ⟨fun k => ?_, h2⟩
    induction k with
    | zero => rw [cnt_succ_zero, cnt_succ_zero]; omega
    | succ k ihk =>
      rw [cnt_succ, Nat.mul_add, ihk, ← h2 k, ← Nat.add_mul]; congr 1; omega
theorem cnt_div (n k : Nat) : cnt n k * (k + n + 1) / (n + 1) = cnt (n + 1) k := by
  rw [Nat.mul_comm, ← (cnt_mul n).1 k, Nat.mul_div_cancel_left _ (by omega)]
theorem cnt_pos (n k : Nat) : 1 ≤ cnt n k := by
  have := firstC_head n k
  unfold cnt
  cases h : comps n k with
  | nil => rw [h] at this; cases this
  | cons => simp
theorem cnt_le (n k : Nat) : cnt n k ≤ cnt (n + 1) k := by
  cases k with
  | zero => rw [cnt_n_zero, cnt_succ_zero]; exact Nat.le_refl _
  | succ k => rw [cnt_succ]; omega
theorem cnt_mono {n m : Nat} (h : n ≤ m) (k : Nat) : cnt n k ≤ cnt m k := by
  induction m with
  | zero => obtain rfl : n = 0 := by omega
            exact Nat.le_refl _
  | succ m ih =>
    by_cases e : n = m + 1
    · subst e; exact Nat.le_refl _
    · exact Nat.le_trans (ih (by omega)) (cnt_le m k)
theorem cnt_one (k : Nat) : cnt 1 k = k + 1 := by
  induction k with
  | zero => rfl
  | succ k ih => rw [cnt_succ, ih, cnt_zero]; omega
end Go.Proofs.Ytcmkllfocifnlaa
