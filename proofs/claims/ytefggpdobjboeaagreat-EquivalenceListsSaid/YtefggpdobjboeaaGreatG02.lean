/- The reduced Laplacian as a table: all its leading blocks are injective, so its determinant is not 0, and the rule of Cramer finds scripts. No program in sight.
   How great a script can be: level sets. No program in sight.
   Burning: what can fire stays unburnt; where all burns, no part can fire. Firing a part that can. No program in sight.
   Edge lists: right ones, their weights, their Laplacian, what moves along them. No program in sight.
   Forests of parts: roots, joining, and when there is one part only. No program in sight. -/
import Derived.Test.YtefggpdobjboeaaGreatG01
namespace Go.Proofs.YtefggpdobjboeaaGreat

def lapT (n : Nat) (w : Nat → Nat → Int) (i j : Nat) : Int := (if i = j then sumN n (w i) else 0) - w i j
theorem lap_table {n : Nat} {w : Nat → Nat → Int} {s : Nat → Int} {v : Nat} (hv : v < n) : lap n w s v = sumN n fun u => lapT n w v u * s u := by
  have e1 : (sumN n fun u => lapT n w v u * s u) = (sumN n fun u => (if v = u then sumN n (w v) else 0) * s u) + sumN n fun u => -(w v u * s u) := by
    rw [← sumN_add]
    exact sumN_congr fun u _ => by unfold lapT; grind
  have e2 : (sumN n fun u => (if v = u then sumN n (w v) else 0) * s u) = s v * sumN n (w v) := by
    rw [sumN_one (c := v) hv]
    · rw [if_pos rfl, Int.mul_comm]
    · intro u _ hne; rw [if_neg (fun e => hne e.symm)]; simp
  rw [e1, e2, ← sumN_mul, ← sumN_add]
  exact sumN_congr fun u _ => by grind
theorem sumN_skip (n q : Nat) (hq : q < n + 1) (f : Nat → Int) : sumN (n + 1) f = f q + sumN n fun j => f (skip q j) := by
  induction n with
  | zero => rw [show q = 0 by omega]; simp [sumN]
  | succ n ih =>
    by_cases e : q = n + 1
    · subst e
      have : (sumN (n + 1) fun j => f (skip (n + 1) j)) = sumN (n + 1) f := sumN_congr fun j hj => by unfold skip; rw [if_pos hj]
      rw [this]
      simp only [sumN]; omega
    · have h1 : sumN (n + 1 + 1) f = sumN (n + 1) f + f (n + 1) := rfl
      have h2 : (sumN (n + 1) fun j => f (skip q j)) = (sumN n fun j => f (skip q j)) + f (skip q n) := rfl
      rw [h1, h2, ih (by omega), show skip q n = n + 1 by unfold skip; rw [if_neg (by omega)]]
      omega
theorem sumN_cut {n m : Nat} (hm : m ≤ n) {f : Nat → Int} (h : ∀ j, m ≤ j → j < n → f j = 0) : sumN n f = sumN m f := by
  induction n with
  | zero => rw [show m = 0 by omega]
  | succ n ih =>
    by_cases e : m = n + 1
    · rw [e]
    · simp only [sumN]
      rw [ih (by omega) fun j h1 h2 => h j h1 (by omega), h n (by omega) (by omega)]
      omega
/-- The reduced Laplacian at q. -/
def redT (n : Nat) (w : Nat → Nat → Int) (q : Nat) (i j : Nat) : Int := lapT n w (skip q i) (skip q j)
theorem redT_sym {n : Nat} {w : Nat → Nat → Int} (hs : ∀ v u, w v u = w u v) (q : Nat) : Sym (redT n w q) := by
  intro i j
  unfold redT lapT
  rw [hs (skip q i) (skip q j)]
  by_cases e : skip q i = skip q j
  · rw [e]
  · rw [if_neg e, if_neg (fun h => e h.symm)]
theorem skip_lt {n q j : Nat} (hj : j < n) : skip q j < n + 1 := by unfold skip; split <;> omega
theorem place_skip (q j : Nat) : place q (skip q j) = j := by
  unfold place skip
  by_cases a : j < q
  · rw [if_pos a, if_pos a]
  · rw [if_neg a, if_neg (by omega)]; omega
theorem redT_mul {n : Nat} {w : Nat → Nat → Int} {q : Nat} (hq : q < n + 1) {s : Nat → Int} (h0 : s q = 0) {i : Nat} (hi : i < n) : (sumN n fun j => redT (n + 1) w q i j * s (skip q j)) = lap (n + 1) w s (skip q i) := by
  rw [lap_table (skip_lt hi), sumN_skip n q hq, h0]
  simp [redT]
theorem redT_inj {n : Nat} {w : Nat → Nat → Int} (hw : ∀ v u, 0 ≤ w v u) (hc : Conn (n + 1) w) {q : Nat} (hq : q < n + 1) {m : Nat} (hm : m ≤ n) : Inj m (redT (n + 1) w q) := by
  intro r hr i hi
  have hz := dirichlet_zero (s := fun x => if x = q then 0 else if place q x < m then r (place q x) else 0) hw hc (fun x => decide (x = q) || decide (m ≤ place q x)) hq (by simp) (fun v hv hb => by
    simp only [Bool.or_eq_false_iff, decide_eq_false_iff_not] at hb
    obtain ⟨b1, b2⟩ := hb
    have e : skip q (place q v) = v := skip_place (fun e => b1 e.symm)
    have := redT_mul (w := w) hq (s := fun x => if x = q then 0 else if place q x < m then r (place q x) else 0) (if_pos rfl) (i := place q v) (by omega)
    rw [e] at this
    rw [← this, sumN_cut hm]
    · rw [← hr (place q v) (by omega)]
      refine sumN_congr fun j hj => ?_
      rw [if_neg (skip_ne q j), place_skip, if_pos hj]
    · intro j hj _
      rw [if_neg (skip_ne q j), place_skip, if_neg (by omega)]
      simp) (fun v hv hb => by
    simp only [Bool.or_eq_true, decide_eq_true_eq] at hb
    by_cases e : v = q
    · exact if_pos e
    · show (if v = q then 0 else if place q v < m then r (place q v) else 0) = 0
      rw [if_neg e, if_neg (by omega)])
  have := hz (skip q i) (skip_lt (by omega))
  simp only [if_neg (skip_ne q i), place_skip, if_pos hi] at this
  exact this
theorem red_ne {n : Nat} {w : Nat → Nat → Int} (hw : ∀ v u, 0 ≤ w v u) (hs : ∀ v u, w v u = w u v) (hc : Conn (n + 1) w) {q : Nat} (hq : q < n + 1) : detN n (redT (n + 1) w q) ≠ 0 :=
  det_ne (redT_sym hs q) fun _ hm => redT_inj hw hc hq hm
/-- All that a script moves sums to 0. -/
theorem lap_sum {n : Nat} {w : Nat → Nat → Int} (hs : ∀ v u, w v u = w u v) (s : Nat → Int) : (sumN n fun v => lap n w s v) = 0 := by
  have e1 : (sumN n fun v => lap n w s v) = (sumN n fun v => sumN n fun u => w v u * s v) + -(sumN n fun v => sumN n fun u => w v u * s u) := by
    rw [← sumN_neg, ← sumN_add]
    refine sumN_congr fun v _ => ?_
    unfold lap
    rw [← sumN_neg, ← sumN_add]
    exact sumN_congr fun u _ => by grind
  have e2 : (sumN n fun v => sumN n fun u => w v u * s u) = sumN n fun v => sumN n fun u => w v u * s v := by
    rw [sumN_swap]
    exact sumN_congr fun u _ => sumN_congr fun v _ => by rw [hs v u]
  rw [e1, e2]; omega
/-- A script that is 0 at q: Cramer's numbers are its multiples. -/
theorem solve_of {n : Nat} {w : Nat → Nat → Int} {q : Nat} (hq : q < n + 1) {s d : Nat → Int} (h0 : s q = 0) (h : ∀ v, v < n + 1 → lap (n + 1) w s v = d v) {j : Nat} (hj : j < n) :
    detN n (setCol (redT (n + 1) w q) j fun i => d (skip q i)) = s (skip q j) * detN n (redT (n + 1) w q) := by
  rw [← cramer n (redT (n + 1) w q) j hj fun k => s (skip q k)]
  refine detN_congr fun i c hi _ => ?_
  unfold setCol
  split
  · show d (skip q i) = sumN n fun k => s (skip q k) * redT (n + 1) w q i k
    rw [← h _ (skip_lt hi), ← redT_mul hq h0 hi]
    exact sumN_congr fun k _ => Int.mul_comm ..
  · rfl
/-- And the other way round. -/
theorem of_solve {n : Nat} {w : Nat → Nat → Int} (hw : ∀ v u, 0 ≤ w v u) (hs : ∀ v u, w v u = w u v) (hc : Conn (n + 1) w) {q : Nat} (hq : q < n + 1) {s d : Nat → Int} (hd : sumN (n + 1) d = 0) (h0 : s q = 0)
    (h : ∀ j, j < n → detN n (setCol (redT (n + 1) w q) j fun i => d (skip q i)) = s (skip q j) * detN n (redT (n + 1) w q)) : ∀ v, v < n + 1 → lap (n + 1) w s v = d v := by
  have hne := red_ne hw hs hc hq
  have key : ∀ i, i < n → lap (n + 1) w s (skip q i) = d (skip q i) := by
    intro i hi
    have e := cramer_back (redT_sym (n := n + 1) hs q) (redT_inj hw hc hq (Nat.le_refl n)) (fun i => d (skip q i)) i hi
    rw [sumN_congr fun v hv => by rw [h v hv]] at e
    rw [← redT_mul hq h0 hi]
    have e2 : (sumN n fun v => redT (n + 1) w q i v * (s (skip q v) * detN n (redT (n + 1) w q))) = detN n (redT (n + 1) w q) * sumN n fun v => redT (n + 1) w q i v * s (skip q v) := by
      rw [← sumN_mul]
      exact sumN_congr fun v _ => by grind
    rw [e2] at e
    exact Int.eq_of_mul_eq_mul_left hne e
  intro v hv
  by_cases e : v = q
  · subst e
    have a := lap_sum (n := n + 1) hs s
    rw [sumN_skip n v hq] at a hd
    rw [sumN_congr fun j hj => key j hj] at a
    omega
  · have h1 := skip_place (fun h : q = v => e h.symm)
    have := key (place q v) (by unfold place; split <;> omega)
    rw [h1] at this
    exact this
end Go.Proofs.YtefggpdobjboeaaGreat

namespace Go.Proofs.YtefggpdobjboeaaGreat

/-- What leaves a part, by its cut. -/
theorem cut_sum {n : Nat} {w : Nat → Nat → Int} (hs : ∀ v u, w v u = w u v) (s : Nat → Int) (a : Nat → Int) :
    (sumN n fun v => a v * lap n w s v) = sumN n fun v => sumN n fun u => a v * (1 - a u) * (w v u * (s v - s u)) := by
  have e1 : (sumN n fun v => a v * lap n w s v) = (sumN n fun v => sumN n fun u => a v * (1 - a u) * (w v u * (s v - s u))) + sumN n fun v => sumN n fun u => a v * a u * (w v u * (s v - s u)) := by
    rw [← sumN_add]
    refine sumN_congr fun v _ => ?_
    unfold lap
    rw [← sumN_mul, ← sumN_add]
    exact sumN_congr fun u _ => by grind
  have e2 : (sumN n fun v => sumN n fun u => a v * a u * (w v u * (s v - s u))) = -(sumN n fun v => sumN n fun u => a v * a u * (w v u * (s v - s u))) := by
    rw [← sumN_neg]
    conv => lhs; rw [sumN_swap]
    refine sumN_congr fun u _ => ?_
    rw [← sumN_neg]
    exact sumN_congr fun v _ => by rw [hs v u]; grind
  rw [e1]
  omega
def countN : Nat → (Nat → Bool) → Nat
  | 0, _ => 0
  | n + 1, p => countN n p + if p n then 1 else 0
theorem countN_le (n : Nat) (p : Nat → Bool) : countN n p ≤ n := by
  induction n with
  | zero => exact Nat.le_refl _
  | succ n ih => simp only [countN]; split <;> omega
theorem countN_mono {n : Nat} {p p' : Nat → Bool} (h : ∀ v, v < n → p v = true → p' v = true) : countN n p ≤ countN n p' := by
  induction n with
  | zero => exact Nat.le_refl _
  | succ n ih =>
    have := ih fun v hv => h v (by omega)
    have h2 := h n (by omega)
    simp only [countN]
    cases hp : p n with
    | false => simp; omega
    | true => rw [h2 hp]; simp; omega
theorem countN_lt {n : Nat} {p p' : Nat → Bool} (h : ∀ v, v < n → p v = true → p' v = true) {x : Nat} (hx : x < n) (h1 : p x = false) (h2 : p' x = true) : countN n p < countN n p' := by
  induction n with
  | zero => omega
  | succ n ih =>
    simp only [countN]
    by_cases e : x = n
    · subst e
      have := countN_mono (n := x) fun v hv => h v (by omega)
      rw [h1, h2]; simp; omega
    · have := ih (fun v hv => h v (by omega)) (by omega)
      have h3 := h n (by omega)
      cases hp : p n with
      | false => simp; omega
      | true => rw [h3 hp]; simp; omega
theorem countN_all {n : Nat} {p : Nat → Bool} (h : n ≤ countN n p) : ∀ v, v < n → p v = true := by
  induction n with
  | zero => intro v hv; omega
  | succ n ih =>
    have hl := countN_le n p
    simp only [countN] at h
    cases hp : p n with
    | false => rw [hp] at h; simp at h; omega
    | true =>
      rw [hp] at h; simp at h
      intro v hv
      by_cases e : v = n
      · rw [e]; exact hp
      · exact ih h v (by omega)
/-- A script that is 0 at q and moves at most B chips at each other vertex is at most n * n * B. -/
theorem script_le {n : Nat} {w : Nat → Nat → Int} (hw : ∀ v u, 0 ≤ w v u) (hs : ∀ v u, w v u = w u v) (hc : Conn n w) {q : Nat} (hq : q < n) {s : Nat → Int} (h0 : s q ≤ 0) {B : Int} (hB : 0 ≤ B)
    (h : ∀ v, v < n → v ≠ q → lap n w s v ≤ B) : ∀ v, v < n → s v ≤ n * (n * B) := by
  have hK : 0 ≤ (n : Int) * B := Int.mul_nonneg (by omega) hB
  have step : ∀ k : Nat, k + 1 ≤ countN n (fun v => decide (s v ≤ (k : Int) * ((n : Int) * B))) ∨ n ≤ countN n (fun v => decide (s v ≤ (k : Int) * ((n : Int) * B))) := by
    intro k
    induction k with
    | zero =>
      left
      have : countN n (fun _ => false) < countN n (fun v => decide (s v ≤ ((0 : Nat) : Int) * ((n : Int) * B))) := countN_lt (fun v _ e => by cases e) hq rfl (by simp; omega)
      omega
    | succ k ih =>
      have hup : ((k + 1 : Nat) : Int) * ((n : Int) * B) = (k : Int) * ((n : Int) * B) + (n : Int) * B := by push_cast; rw [Int.add_mul, Int.one_mul]
      rw [hup]
      have hsub : ∀ v, v < n → decide (s v ≤ (k : Int) * ((n : Int) * B)) = true → decide (s v ≤ (k : Int) * ((n : Int) * B) + (n : Int) * B) = true := fun v _ hv => by simp at hv ⊢; omega
      rcases ih with ih | ih
      · by_cases hall : n ≤ countN n (fun v => decide (s v ≤ (k : Int) * ((n : Int) * B)))
        · right; exact Nat.le_trans hall (countN_mono hsub)
        · left
          have hex : ∃ v, v < n ∧ ¬ s v ≤ (k : Int) * ((n : Int) * B) := by
            apply Classical.byContradiction
            intro hne
            have hle : countN n (fun _ => true) ≤ countN n (fun v => decide (s v ≤ (k : Int) * ((n : Int) * B))) := countN_mono fun v hv _ => by
              simp only [decide_eq_true_eq]
              apply Classical.byContradiction
              intro hv2
              exact hne ⟨v, hv, hv2⟩
            have hn : ∀ m, countN m (fun _ => true) = m := fun m => by induction m with | zero => rfl | succ m ih => simp [countN, ih]
            rw [hn] at hle
            exact hall hle
          obtain ⟨x, hx, hx2⟩ := hex
          have hk0 : 0 ≤ (k : Int) * ((n : Int) * B) := Int.mul_nonneg (by omega) hK
          obtain ⟨v, u, hv, hu, ha, hb, hwu⟩ := hc (fun v => decide (¬ s v ≤ (k : Int) * ((n : Int) * B))) ⟨x, hx, by simpa using hx2⟩ ⟨q, hq, by simp; omega⟩
          simp only [decide_eq_true_eq] at ha
          have hb' : s u ≤ (k : Int) * ((n : Int) * B) := by simpa using hb
          have hcut := cut_sum hs s (n := n) fun v => if s v ≤ (k : Int) * ((n : Int) * B) then 0 else 1
          have hup2 : (sumN n fun v => (if s v ≤ (k : Int) * ((n : Int) * B) then 0 else 1) * lap n w s v) ≤ (n : Int) * B := by
            have hn2 : ∀ m, (sumN m fun _ => B) = (m : Int) * B := fun m => by induction m with | zero => simp [sumN] | succ m ih => simp only [sumN, ih]; push_cast; rw [Int.add_mul, Int.one_mul]
            refine Int.le_trans (sumN_mono (g := fun _ => B) fun v hv => ?_) (Int.le_of_eq (hn2 n))
            split
            · simpa using hB
            · next hne => rw [Int.one_mul]; exact h v hv (fun e => by subst e; omega)
          rw [hcut] at hup2
          have hnn : ∀ v, v < n → 0 ≤ sumN n fun u => (if s v ≤ (k : Int) * ((n : Int) * B) then 0 else 1) * (1 - if s u ≤ (k : Int) * ((n : Int) * B) then 0 else 1) * (w v u * (s v - s u)) := fun v hv => sumN_nonneg fun u hu => by
            by_cases c1 : s v ≤ (k : Int) * ((n : Int) * B)
            · rw [if_pos c1]; simp
            · by_cases c2 : s u ≤ (k : Int) * ((n : Int) * B)
              · rw [if_neg c1, if_pos c2]
                have := Int.mul_nonneg (hw v u) (show 0 ≤ s v - s u by omega)
                omega
              · rw [if_neg c1, if_neg c2]; simp
          have t1 := sumN_ge hnn hv
          have t2 := sumN_ge (n := n) (c := u) (f := fun u => (if s v ≤ (k : Int) * ((n : Int) * B) then 0 else 1) * (1 - if s u ≤ (k : Int) * ((n : Int) * B) then 0 else 1) * (w v u * (s v - s u))) (fun u hu => by
            by_cases c2 : s u ≤ (k : Int) * ((n : Int) * B)
            · rw [if_neg ha, if_pos c2]
              have := Int.mul_nonneg (hw v u) (show 0 ≤ s v - s u by omega)
              omega
            · rw [if_neg ha, if_neg c2]; simp) hu
          simp only [if_neg ha, if_pos hb'] at t1 t2
          have t3 := Int.mul_le_mul_of_nonneg_right (show (1 : Int) ≤ w v u by omega) (show 0 ≤ s v - s u by omega)
          have hlast : s v ≤ (k : Int) * ((n : Int) * B) + (n : Int) * B := by omega
          have := countN_lt hsub hv (by simpa using ha) (by simpa using hlast)
          omega
      · right; exact Nat.le_trans ih (countN_mono hsub)
  intro v hv
  have hfin := step n
  have hl := countN_le n (fun v => decide (s v ≤ (n : Int) * ((n : Int) * B)))
  have := countN_all (n := n) (p := fun v => decide (s v ≤ (n : Int) * ((n : Int) * B))) (by omega) v hv
  simpa using this
end Go.Proofs.YtefggpdobjboeaaGreat

namespace Go.Proofs.YtefggpdobjboeaaGreat

/-- The edges from v into a part. -/
def joinw (n : Nat) (w : Nat → Nat → Int) (b : Nat → Bool) (v : Nat) : Int := sumN n fun u => if b u then w v u else 0
/-- A part that can fire without a debt in it. -/
def Legal (n : Nat) (w : Nat → Nat → Int) (d : Nat → Int) (A : Nat → Bool) : Prop := ∀ v, v < n → A v = true → outw n w A v ≤ d v
theorem burn_step {n : Nat} {w : Nat → Nat → Int} {d : Nat → Int} {A b : Nat → Bool} (hw : ∀ v u, 0 ≤ w v u) (hA : Legal n w d A) (hdis : ∀ u, u < n → b u = true → A u = false) {v : Nat} (hv : v < n) (hb : d v < joinw n w b v) : A v = false := by
  cases ha : A v with
  | false => rfl
  | true =>
    have h1 := hA v hv ha
    have h2 : joinw n w b v ≤ outw n w A v := by
      unfold joinw outw
      refine sumN_mono fun u hu => ?_
      have := hw v u
      cases hbu : b u with
      | true => rw [hdis u hu hbu]; simp
      | false => cases A u <;> simp <;> omega
    omega
theorem tight_of_burnt {n : Nat} {w : Nat → Nat → Int} {d : Nat → Int} {q : Nat} (h : ∀ A, A q = false → Legal n w d A → ∀ v, v < n → A v = false) : Tight n w q d := by
  intro A hq ⟨v, hv, ha⟩
  apply Classical.byContradiction
  intro hne
  have hl : Legal n w d A := fun u hu hau => by
    rcases Int.lt_or_le (d u) (outw n w A u) with c | c
    · exact absurd ⟨u, hu, hau, c⟩ hne
    · exact c
  have := h A hq hl v hv
  rw [ha] at this; cases this
theorem lap_ind {n : Nat} {w : Nat → Nat → Int} (A : Nat → Bool) (t : Int) (v : Nat) : lap n w (fun u => if A u then t else 0) v = if A v then t * outw n w A v else -(t * joinw n w A v) := by
  unfold lap outw joinw
  cases ha : A v with
  | true =>
    simp only [if_true]
    rw [← sumN_mul]
    exact sumN_congr fun u _ => by cases A u <;> simp <;> grind
  | false =>
    simp only [Bool.false_eq_true, if_false]
    rw [← sumN_mul, ← sumN_neg]
    exact sumN_congr fun u _ => by cases A u <;> simp <;> grind
/-- With the complement of the burnt part: the edges out of it are those into the burnt ones. -/
theorem outw_not (n : Nat) (w : Nat → Nat → Int) (b : Nat → Bool) (v : Nat) : outw n w (fun u => !b u) v = joinw n w b v := by
  unfold outw joinw
  exact sumN_congr fun u _ => by cases hb : b u <;> simp [hb]
theorem lap_add (n : Nat) (w : Nat → Nat → Int) (s t : Nat → Int) (v : Nat) : lap n w (fun u => s u + t u) v = lap n w s v + lap n w t v := by
  unfold lap
  rw [← sumN_add]
  exact sumN_congr fun u _ => by grind
theorem lap_congr {n : Nat} {w : Nat → Nat → Int} {s t : Nat → Int} {v : Nat} (hv : v < n) (h : ∀ u, u < n → s u = t u) : lap n w s v = lap n w t v := by
  unfold lap
  exact sumN_congr fun u hu => by rw [h v hv, h u hu]
/-- A part that is not all, without q, has a vertex with edges out of it. -/
theorem some_out {n : Nat} {w : Nat → Nat → Int} (hw : ∀ v u, 0 ≤ w v u) (hc : Conn n w) {A : Nat → Bool} {q : Nat} (hq : q < n) (hAq : A q = false) (hA : ∃ v, v < n ∧ A v = true) : ∃ v, v < n ∧ A v = true ∧ 0 < outw n w A v := by
  obtain ⟨v, u, hv, hu, ha, hb, hwu⟩ := hc A hA ⟨q, hq, hAq⟩
  refine ⟨v, hv, ha, ?_⟩
  have := sumN_ge (n := n) (c := u) (f := fun u => if A u then 0 else w v u) (fun i _ => by split; exact Int.le_refl _; exact hw v i) hu
  simp only [hb, Bool.false_eq_true, if_false] at this
  unfold outw
  omega
end Go.Proofs.YtefggpdobjboeaaGreat

namespace Go.Proofs.YtefggpdobjboeaaGreat

/-- An edge: both ends, and how many. -/
abbrev Tri := Int × Int × Int
def okE (n : Int) (last : Int × Int) (t : Tri) : Int :=
  if t.1 < 0 ∨ n ≤ t.1 ∨ t.2.1 < 0 ∨ n ≤ t.2.1 ∨ t.2.2 < 1 ∨ 50 < t.2.2 then 2 else if t.2.1 < t.1 ∨ t.1 < last.1 ∨ (t.1 = last.1 ∧ t.2.1 ≤ last.2) then 9 else 0
def gcheckL (n : Int) : Int × Int → List Tri → Int
  | _, [] => 0
  | last, t :: r => if okE n last t ≠ 0 then okE n last t else gcheckL n (t.1, t.2.1) r
def gcheckE (n : Int) (es : List Tri) : Int := if n < 1 ∨ 12 < n then 2 else gcheckL n (-1, -1) es
def LexLt (s t : Tri) : Prop := s.1 < t.1 ∨ (s.1 = t.1 ∧ s.2.1 < t.2.1)
/-- Right edges of n vertices. -/
structure Edges (n : Nat) (es : List Tri) : Prop where
  lo : ∀ t ∈ es, 0 ≤ t.1 ∧ t.1 ≤ t.2.1 ∧ t.2.1 < n
  mult : ∀ t ∈ es, 1 ≤ t.2.2 ∧ t.2.2 ≤ 50
  ord : es.Pairwise LexLt
theorem okE_zero {n : Int} {last : Int × Int} {t : Tri} (h : okE n last t = 0) : 0 ≤ t.1 ∧ t.1 ≤ t.2.1 ∧ t.2.1 < n ∧ 1 ≤ t.2.2 ∧ t.2.2 ≤ 50 ∧ (last.1 < t.1 ∨ (last.1 = t.1 ∧ last.2 < t.2.1)) := by
  unfold okE at h
  by_cases a : t.1 < 0 ∨ n ≤ t.1 ∨ t.2.1 < 0 ∨ n ≤ t.2.1 ∨ t.2.2 < 1 ∨ 50 < t.2.2
  · rw [if_pos a] at h; cases h
  · rw [if_neg a] at h
    by_cases b : t.2.1 < t.1 ∨ t.1 < last.1 ∨ (t.1 = last.1 ∧ t.2.1 ≤ last.2)
    · rw [if_pos b] at h; cases h
    · omega
theorem gcheckL_zero {n : Nat} {es : List Tri} {last : Int × Int} (h : gcheckL n last es = 0) : Edges n es ∧ ∀ t ∈ es, last.1 < t.1 ∨ (last.1 = t.1 ∧ last.2 < t.2.1) := by
  induction es generalizing last with
  | nil => exact ⟨⟨by simp, by simp, List.Pairwise.nil⟩, by simp⟩
  | cons t r ih =>
    unfold gcheckL at h
    by_cases e : okE n last t = 0
    · simp only [e, ne_eq, not_true_eq_false, if_false] at h
      obtain ⟨h1, h2, h3, h4, h5, h6⟩ := okE_zero e
      obtain ⟨g, gl⟩ := ih h
      refine ⟨⟨?_, ?_, List.Pairwise.cons (fun s hs => gl s hs) g.ord⟩, ?_⟩
      · intro s hs
        rcases List.mem_cons.1 hs with rfl | hs
        · exact ⟨h1, h2, h3⟩
        · exact g.lo s hs
      · intro s hs
        rcases List.mem_cons.1 hs with rfl | hs
        · exact ⟨h4, h5⟩
        · exact g.mult s hs
      · intro s hs
        rcases List.mem_cons.1 hs with rfl | hs
        · exact h6
        · have := gl s hs; simp only at this; omega
    · simp [e] at h
theorem gcheckE_zero {n : Int} {es : List Tri} (h : gcheckE n es = 0) : ∃ m : Nat, n = m ∧ 1 ≤ m ∧ m ≤ 12 ∧ Edges m es := by
  unfold gcheckE at h
  by_cases a : n < 1 ∨ 12 < n
  · rw [if_pos a] at h; cases h
  · rw [if_neg a] at h
    obtain ⟨m, rfl⟩ := Int.eq_ofNat_of_zero_le (show 0 ≤ n by omega)
    exact ⟨m, rfl, by omega, by omega, (gcheckL_zero h).1⟩

/-- What an edge adds to the weight of two vertices. -/
def ew (t : Tri) (v u : Nat) : Int := if t.1 ≠ t.2.1 ∧ ((t.1 = v ∧ t.2.1 = u) ∨ (t.1 = u ∧ t.2.1 = v)) then t.2.2 else 0
def wgt : List Tri → Nat → Nat → Int
  | [], _, _ => 0
  | t :: r, v, u => ew t v u + wgt r v u
theorem ew_sym (t : Tri) (v u : Nat) : ew t v u = ew t u v := by
  unfold ew
  split <;> split <;> first | rfl | (exfalso; omega)
theorem wgt_sym (es : List Tri) (v u : Nat) : wgt es v u = wgt es u v := by
  induction es with
  | nil => rfl
  | cons t r ih => simp only [wgt, ih, ew_sym t v u]
theorem ew_self (t : Tri) (v : Nat) : ew t v v = 0 := by
  unfold ew
  rw [if_neg]
  rintro ⟨h1, h2⟩
  rcases h2 with h2 | h2 <;> exact h1 (h2.1.trans h2.2.symm)
theorem wgt_self (es : List Tri) (v : Nat) : wgt es v v = 0 := by
  induction es with
  | nil => rfl
  | cons t r ih => simp only [wgt, ih, ew_self]; rfl
theorem ew_nonneg {t : Tri} (h : 0 ≤ t.2.2) (v u : Nat) : 0 ≤ ew t v u := by unfold ew; split <;> omega
theorem wgt_nonneg {es : List Tri} (h : ∀ t ∈ es, 0 ≤ t.2.2) (v u : Nat) : 0 ≤ wgt es v u := by
  induction es with
  | nil => exact Int.le_refl _
  | cons t r ih =>
    have h1 := ew_nonneg (h t (List.mem_cons_self ..)) v u
    have h2 := ih fun s hs => h s (List.mem_cons_of_mem _ hs)
    simp only [wgt]; omega
theorem wgt_pos_mem {es : List Tri} {v u : Nat} (h : 0 < wgt es v u) : ∃ t ∈ es, t.1 ≠ t.2.1 ∧ ((t.1 = v ∧ t.2.1 = u) ∨ (t.1 = u ∧ t.2.1 = v)) := by
  induction es with
  | nil => simp [wgt] at h
  | cons t r ih =>
    by_cases a : t.1 ≠ t.2.1 ∧ ((t.1 = v ∧ t.2.1 = u) ∨ (t.1 = u ∧ t.2.1 = v))
    · exact ⟨t, List.mem_cons_self .., a⟩
    · simp only [wgt, ew, if_neg a] at h
      obtain ⟨s, hs, hh⟩ := ih (by omega)
      exact ⟨s, List.mem_cons_of_mem _ hs, hh⟩
theorem wgt_mem_le {es : List Tri} (h : ∀ t ∈ es, 0 ≤ t.2.2) {t : Tri} (ht : t ∈ es) {v u : Nat} (he : t.1 ≠ t.2.1 ∧ ((t.1 = v ∧ t.2.1 = u) ∨ (t.1 = u ∧ t.2.1 = v))) : t.2.2 ≤ wgt es v u := by
  induction es with
  | nil => cases ht
  | cons s r ih =>
    have h1 := ew_nonneg (h s (List.mem_cons_self ..)) v u
    have h2 := wgt_nonneg (fun s hs => h s (List.mem_cons_of_mem _ hs)) v u (es := r)
    rcases List.mem_cons.1 ht with rfl | ht
    · simp only [wgt, ew, if_pos he]; omega
    · have := ih (fun s hs => h s (List.mem_cons_of_mem _ hs)) ht
      simp only [wgt]; omega

/-- How many single edges. -/
def multS (es : List Tri) : Int := (es.map fun t => t.2.2).sum
theorem multS_cons (t : Tri) (r : List Tri) : multS (t :: r) = t.2.2 + multS r := by simp [multS]
theorem multS_nonneg {es : List Tri} (h : ∀ t ∈ es, 0 ≤ t.2.2) : 0 ≤ multS es := by
  induction es with
  | nil => exact Int.le_refl _
  | cons t r ih =>
    have := h t (List.mem_cons_self ..)
    have := ih fun s hs => h s (List.mem_cons_of_mem _ hs)
    rw [multS_cons]; omega

/-- What one edge moves, by both its ends. -/
def lapT1 (t : Tri) (s : Nat → Int) (v : Nat) : Int :=
  if t.1 = t.2.1 then 0 else if t.1 = v then t.2.2 * (s v - s t.2.1.toNat) else if t.2.1 = v then t.2.2 * (s v - s t.1.toNat) else 0
def lapE : List Tri → (Nat → Int) → Nat → Int
  | [], _, _ => 0
  | t :: r, s, v => lapT1 t s v + lapE r s v
def Ends (n : Nat) (es : List Tri) : Prop := ∀ t ∈ es, 0 ≤ t.1 ∧ t.1 < n ∧ 0 ≤ t.2.1 ∧ t.2.1 < n
theorem Edges.ends {n : Nat} {es : List Tri} (h : Edges n es) : Ends n es := fun t ht => by have := h.lo t ht; omega
theorem Ends.tail {n : Nat} {t : Tri} {es : List Tri} (h : Ends n (t :: es)) : Ends n es := fun s hs => h s (List.mem_cons_of_mem _ hs)
theorem Edges.pos {n : Nat} {es : List Tri} (h : Edges n es) : ∀ t ∈ es, 0 ≤ t.2.2 := fun t ht => by have := h.mult t ht; omega

/-- A sum over the neighbours along one edge. -/
theorem sum_ew {n : Nat} {t : Tri} (h : 0 ≤ t.1 ∧ t.1 < n ∧ 0 ≤ t.2.1 ∧ t.2.1 < n) (f : Nat → Int) (v : Nat) :
    (sumN n fun u => ew t v u * f u) = if t.1 = t.2.1 then 0 else if t.1 = v then t.2.2 * f t.2.1.toNat else if t.2.1 = v then t.2.2 * f t.1.toNat else 0 := by
  by_cases e : t.1 = t.2.1
  · rw [if_pos e]
    exact sumN_zero fun u _ => by unfold ew; rw [if_neg fun hh => hh.1 e]; simp
  · rw [if_neg e]
    by_cases a : t.1 = v
    · rw [if_pos a, sumN_one (c := t.2.1.toNat) (by omega)]
      · unfold ew; rw [if_pos ⟨e, .inl ⟨a, by omega⟩⟩]
      · intro u hu hne
        unfold ew
        rw [if_neg]
        · simp
        · rintro ⟨-, hh⟩
          rcases hh with hh | hh <;> omega
    · rw [if_neg a]
      by_cases b : t.2.1 = v
      · rw [if_pos b, sumN_one (c := t.1.toNat) (by omega)]
        · unfold ew; rw [if_pos ⟨e, .inr ⟨by omega, b⟩⟩]
        · intro u hu hne
          unfold ew
          rw [if_neg]
          · simp
          · rintro ⟨-, hh⟩
            rcases hh with hh | hh <;> omega
      · rw [if_neg b]
        exact sumN_zero fun u _ => by
          unfold ew
          rw [if_neg]
          · simp
          · rintro ⟨-, hh⟩
            rcases hh with hh | hh <;> omega
theorem lap_edges {n : Nat} {es : List Tri} (h : Ends n es) (s : Nat → Int) (v : Nat) : lap n (wgt es) s v = lapE es s v := by
  induction es with
  | nil => exact sumN_zero fun u _ => by simp [wgt]
  | cons t r ih =>
    have h1 := sum_ew (h t (List.mem_cons_self ..)) (fun u => s v - s u) v
    have h2 := ih h.tail
    unfold lap at h2 ⊢
    simp only [wgt, Int.add_mul, lapE]
    rw [sumN_add, h2, h1]
    rfl
/-- The single edges from v to vertices with a property. -/
def joinT1 (t : Tri) (p : Nat → Bool) (v : Nat) : Int := if t.1 ≠ t.2.1 ∧ (t.1 = v ∨ t.2.1 = v) ∧ p (t.1 + t.2.1 - v).toNat = true then t.2.2 else 0
def joinE : List Tri → (Nat → Bool) → Nat → Int
  | [], _, _ => 0
  | t :: r, p, v => joinT1 t p v + joinE r p v
theorem join_edges {n : Nat} {es : List Tri} (h : Ends n es) (p : Nat → Bool) (v : Nat) : joinw n (wgt es) p v = joinE es p v := by
  have e : ∀ (W : Nat → Nat → Int), joinw n W p v = sumN n fun u => W v u * if p u then 1 else 0 := fun W => by
    unfold joinw
    exact sumN_congr fun u _ => by split <;> simp
  rw [e]
  induction es with
  | nil => exact sumN_zero fun u _ => by simp [wgt]
  | cons t r ih =>
    have h1 := sum_ew (h t (List.mem_cons_self ..)) (fun u => if p u then 1 else 0) v
    have h2 := ih h.tail
    have h0 := h t (List.mem_cons_self ..)
    simp only [wgt, Int.add_mul, joinE]
    rw [sumN_add, h2, h1]
    congr 1
    unfold joinT1
    by_cases a : t.1 = t.2.1
    · rw [if_pos a, if_neg fun hh => hh.1 a]
    · rw [if_neg a]
      by_cases b : t.1 = v
      · rw [if_pos b, show t.1 + t.2.1 - v = t.2.1 by omega]
        by_cases c : p t.2.1.toNat = true
        · rw [if_pos c, if_pos ⟨a, .inl b, c⟩]; simp
        · rw [if_neg c, if_neg fun hh => c hh.2.2]; simp
      · rw [if_neg b]
        by_cases b2 : t.2.1 = v
        · rw [if_pos b2, show t.1 + t.2.1 - v = t.1 by omega]
          by_cases c : p t.1.toNat = true
          · rw [if_pos c, if_pos ⟨a, .inr b2, c⟩]; simp
          · rw [if_neg c, if_neg fun hh => c hh.2.2]; simp
        · rw [if_neg b2, if_neg fun hh => by rcases hh.2.1 with x | x <;> contradiction]
theorem joinE_le {es : List Tri} (h : ∀ t ∈ es, 0 ≤ t.2.2) (p : Nat → Bool) (v : Nat) : 0 ≤ joinE es p v ∧ joinE es p v ≤ multS es := by
  induction es with
  | nil => simp [joinE, multS]
  | cons t r ih =>
    have h1 := h t (List.mem_cons_self ..)
    have h2 := ih fun s hs => h s (List.mem_cons_of_mem _ hs)
    rw [multS_cons]
    have : 0 ≤ joinT1 t p v ∧ joinT1 t p v ≤ t.2.2 := by unfold joinT1; split <;> omega
    simp only [joinE]; omega
end Go.Proofs.YtefggpdobjboeaaGreat

namespace Go.Proofs.YtefggpdobjboeaaGreat

/-- The vertex that stands for a part. -/
def rootF (f : List Nat) (v : Nat) : Nat := if _h : f.getD v v < v then rootF f (f.getD v v) else v
termination_by v
/-- A forest of 12 vertices: nobody has a greater one. -/
def Fo (f : List Nat) : Prop := f.length = 12 ∧ ∀ v, v < 12 → f.getD v v ≤ v
theorem root_unf (f : List Nat) (v : Nat) : rootF f v = if f.getD v v < v then rootF f (f.getD v v) else v := by
  rw [rootF]; split <;> rfl
theorem root_le (f : List Nat) (v : Nat) : rootF f v ≤ v := by
  induction v using Nat.strongRecOn with
  | _ v ih =>
    rw [root_unf]
    split
    · next h => have := ih _ h; omega
    · omega
theorem root_fix {f : List Nat} (h : Fo f) {v : Nat} (hv : v < 12) : f.getD (rootF f v) (rootF f v) = rootF f v := by
  induction v using Nat.strongRecOn with
  | _ v ih =>
    rw [root_unf]
    split
    · next hl => exact ih _ hl (by omega)
    · have := h.2 v hv; omega
theorem root_of_fix {f : List Nat} {v : Nat} (h : f.getD v v = v) : rootF f v = v := by
  rw [root_unf, if_neg (by omega)]
theorem root_step {f : List Nat} (h : Fo f) {v : Nat} (hv : v < 12) : rootF f (f.getD v v) = rootF f v := by
  have := h.2 v hv
  rcases Nat.lt_or_ge (f.getD v v) v with c | c
  · conv => rhs; rw [root_unf, if_pos c]
  · rw [show f.getD v v = v by omega]
theorem getD_set_nat (l : List Nat) (i x j d : Nat) (hi : i < l.length) : (l.set i x).getD j d = if i = j then x else l.getD j d := by
  rw [List.getD_eq_getElem?_getD, List.getElem?_set]
  by_cases e : i = j
  · subst e; rw [if_pos rfl, if_pos rfl, if_pos hi]; rfl
  · rw [if_neg e, if_neg e, List.getD_eq_getElem?_getD]
def joinF (f : List Nat) (a b : Nat) : List Nat := f.set (max (rootF f a) (rootF f b)) (min (rootF f a) (rootF f b))
theorem joinF_fo {f : List Nat} (h : Fo f) {a b : Nat} (ha : a < 12) (hb : b < 12) : Fo (joinF f a b) := by
  have h1 := root_le f a
  have h2 := root_le f b
  refine ⟨by simp [joinF, h.1], fun v hv => ?_⟩
  unfold joinF
  rw [getD_set_nat _ _ _ _ _ (by rw [h.1]; omega)]
  split
  · omega
  · exact h.2 v hv
theorem joinF_root {f : List Nat} (h : Fo f) {a b : Nat} (ha : a < 12) (hb : b < 12) {v : Nat} (hv : v < 12) :
    rootF (joinF f a b) v = if rootF f v = max (rootF f a) (rootF f b) then min (rootF f a) (rootF f b) else rootF f v := by
  have h1 := root_le f a
  have h2 := root_le f b
  have fa := root_fix h ha
  have fb := root_fix h hb
  have hmn : rootF (joinF f a b) (min (rootF f a) (rootF f b)) = min (rootF f a) (rootF f b) := by
    apply root_of_fix
    unfold joinF
    rw [getD_set_nat _ _ _ _ _ (by rw [h.1]; omega)]
    split
    · rfl
    · rcases Nat.le_total (rootF f a) (rootF f b) with c | c
      · rw [Nat.min_eq_left c]; exact fa
      · rw [Nat.min_eq_right c]; exact fb
  induction v using Nat.strongRecOn with
  | _ v ih =>
    have hj : (joinF f a b).getD v v = if max (rootF f a) (rootF f b) = v then min (rootF f a) (rootF f b) else f.getD v v := by
      unfold joinF
      exact getD_set_nat _ _ _ _ _ (by rw [h.1]; omega)
    by_cases e : max (rootF f a) (rootF f b) = v
    · have hr : rootF f v = v := by
        apply root_of_fix
        rw [← e]
        rcases Nat.le_total (rootF f a) (rootF f b) with c | c
        · rw [Nat.max_eq_right c]; exact fb
        · rw [Nat.max_eq_left c]; exact fa
      rw [hr, if_pos e.symm, root_unf, hj, if_pos e]
      split
      · exact hmn
      · omega
    · rw [root_unf, hj, if_neg e]
      by_cases c : f.getD v v < v
      · rw [if_pos c, ih _ c (by omega), root_step h hv]
      · have hr : rootF f v = v := by rw [root_unf, if_neg c]
        rw [if_neg c, hr, if_neg fun hh => e hh.symm]
def grownF : List Nat := List.range 12
theorem grown_get (v : Nat) (hv : v < 12) : grownF.getD v v = v := by
  unfold grownF; rw [List.getD_eq_getElem?_getD, List.getElem?_range hv]; rfl
theorem grown_fo : Fo grownF := ⟨by simp [grownF], fun v hv => by rw [grown_get v hv]; exact Nat.le_refl _⟩
def joinAll (f : List Nat) (es : List Tri) : List Nat := es.foldl (fun g t => joinF g t.1.toNat t.2.1.toNat) f
/-- What a forest says of the edges that were joined. -/
structure Says (n : Nat) (es : List Tri) (f : List Nat) : Prop where
  fo : Fo f
  sound : ∀ A : Nat → Bool, (∀ t ∈ es, A t.1.toNat = A t.2.1.toNat) → ∀ v, v < 12 → A (rootF f v) = A v
  whole : ∀ t ∈ es, rootF f t.1.toNat = rootF f t.2.1.toNat
theorem says_nil (n : Nat) : Says n [] grownF := ⟨grown_fo, fun A _ v hv => by rw [root_of_fix (grown_get v hv)], by simp⟩
theorem Says.snoc {n : Nat} {es : List Tri} {f : List Nat} (h : Says n es f) {t : Tri} (ha : t.1.toNat < 12) (hb : t.2.1.toNat < 12) : Says n (es ++ [t]) (joinF f t.1.toNat t.2.1.toNat) := by
  refine ⟨joinF_fo h.fo ha hb, fun A hA v hv => ?_, fun s hs => ?_⟩
  · have hA1 := h.sound A fun s hs => hA s (List.mem_append_left _ hs)
    have hA2 := hA t (by simp)
    rw [joinF_root h.fo ha hb hv]
    split
    · next e =>
      have e1 := hA1 v hv
      have e2 := hA1 _ ha
      have e3 := hA1 _ hb
      rw [e] at e1
      rcases Nat.le_total (rootF f t.1.toNat) (rootF f t.2.1.toNat) with c | c
      · rw [Nat.max_eq_right c] at e1; rw [Nat.min_eq_left c, ← e1, e2, e3, hA2]
      · rw [Nat.max_eq_left c] at e1; rw [Nat.min_eq_right c, ← e1, e2, e3, hA2]
    · exact hA1 v hv
  · rcases List.mem_append.1 hs with hs | hs
    · have hw := h.whole s hs
      rcases Nat.lt_or_ge s.1.toNat 12 with c1 | c1
      · rcases Nat.lt_or_ge s.2.1.toNat 12 with c2 | c2
        · rw [joinF_root h.fo ha hb c1, joinF_root h.fo ha hb c2, hw]
        · exfalso
          have e : rootF f s.2.1.toNat = s.2.1.toNat := by
            rw [root_unf, if_neg]
            rw [List.getD_eq_getElem?_getD, List.getElem?_eq_none (by rw [h.fo.1]; exact c2)]
            simp
          have := root_le f s.1.toNat
          omega
      · rcases Nat.lt_or_ge s.2.1.toNat 12 with c2 | c2
        · exfalso
          have e : rootF f s.1.toNat = s.1.toNat := by
            rw [root_unf, if_neg]
            rw [List.getD_eq_getElem?_getD, List.getElem?_eq_none (by rw [h.fo.1]; exact c1)]
            simp
          have := root_le f s.2.1.toNat
          omega
        · have e : ∀ (g : List Nat) (v : Nat), g.length = 12 → 12 ≤ v → rootF g v = v := fun g v hg hv => by
            rw [root_unf, if_neg]
            rw [List.getD_eq_getElem?_getD, List.getElem?_eq_none (by omega)]
            simp
          rw [e f _ h.fo.1 c1, e f _ h.fo.1 c2] at hw
          rw [hw]
    · simp only [List.mem_singleton] at hs
      subst hs
      rw [joinF_root h.fo ha hb ha, joinF_root h.fo ha hb hb]
      by_cases c1 : rootF f s.1.toNat = max (rootF f s.1.toNat) (rootF f s.2.1.toNat) <;> by_cases c2 : rootF f s.2.1.toNat = max (rootF f s.1.toNat) (rootF f s.2.1.toNat)
      · rw [if_pos c1, if_pos c2]
      · rw [if_pos c1, if_neg c2]; omega
      · rw [if_neg c1, if_pos c2]; omega
      · exfalso; omega
theorem joinAll_says {n : Nat} (hn : n ≤ 12) (es pre : List Tri) (f : List Nat) (h : Says n pre f) (he : Ends n es) : Says n (pre ++ es) (joinAll f es) := by
  induction es generalizing pre f with
  | nil => simpa [joinAll] using h
  | cons t r ih =>
    have ht := he t (List.mem_cons_self ..)
    have := ih (pre ++ [t]) _ (h.snoc (t := t) (by omega) (by omega)) he.tail
    simpa [joinAll] using this
/-- How many parts. -/
def partsN (n : Nat) (f : List Nat) : Nat := countN n fun v => decide (f.getD v v = v)
theorem countN_pos {n : Nat} {p : Nat → Bool} {x : Nat} (hx : x < n) (h : p x = true) : 1 ≤ countN n p := by
  have := countN_lt (p := fun _ => false) (p' := p) (fun _ _ e => by cases e) hx rfl h
  omega
theorem countN_two {n : Nat} {p : Nat → Bool} {x y : Nat} (hx : x < n) (hy : y < n) (hne : x ≠ y) (h : p x = true) (h' : p y = true) : 2 ≤ countN n p := by
  have h1 := countN_pos (p := fun v => decide (v = x)) hx (by simp)
  have := countN_lt (n := n) (p := fun v => decide (v = x)) (p' := p) (fun v _ e => by simp at e; subst e; exact h) hy (by simp; exact fun e => hne e.symm) h'
  omega
theorem countN_le_one {n : Nat} {p : Nat → Bool} {x : Nat} (h : ∀ v, v < n → p v = true → v = x) : countN n p ≤ 1 := by
  induction n with
  | zero => exact Nat.zero_le _
  | succ n ih =>
    simp only [countN]
    by_cases hp : p n = true
    · have hx := h n (by omega) hp
      have : countN n p ≤ countN n fun _ => false := countN_mono fun v hv hpv => by
        have := h v (by omega) hpv; omega
      have e : ∀ m, countN m (fun _ => false) = 0 := fun m => by induction m with | zero => rfl | succ m ih => simp [countN, ih]
      rw [e] at this
      rw [if_pos hp]; omega
    · rw [if_neg hp]; exact ih fun v hv => h v (by omega)
theorem conn_parts {n : Nat} {es : List Tri} {f : List Nat} (hn1 : 1 ≤ n) (hn : n ≤ 12) (he : Ends n es) (hp : ∀ t ∈ es, 1 ≤ t.2.2) (h : Says n es f) : Conn n (wgt es) ↔ partsN n f = 1 := by
  have h0 : f.getD 0 0 = 0 := by have := h.fo.2 0 (by omega); omega
  have hpos : ∀ t ∈ es, 0 ≤ t.2.2 := fun t ht => by have := hp t ht; omega
  unfold partsN
  constructor
  · intro hc
    have hge := countN_pos (n := n) (p := fun v => decide (f.getD v v = v)) (x := 0) (by omega) (by simpa using h0)
    have hle : countN n (fun v => decide (f.getD v v = v)) ≤ 1 := countN_le_one (x := 0) fun r hr hpr => by
      simp only [decide_eq_true_eq] at hpr
      apply Classical.byContradiction
      intro hne
      obtain ⟨v, u, hv, hu, ha, hb, hw⟩ := hc (fun v => decide (rootF f v = r)) ⟨r, hr, by simp [root_of_fix hpr]⟩ ⟨0, by omega, by simp only [decide_eq_false_iff_not]; rw [root_of_fix h0]; omega⟩
      simp only [decide_eq_true_eq, decide_eq_false_iff_not] at ha hb
      obtain ⟨t, ht, hne', hh⟩ := wgt_pos_mem hw
      have hw' := h.whole t ht
      rcases hh with ⟨e1, e2⟩ | ⟨e1, e2⟩
      · rw [e1, e2] at hw'; simp only [Int.toNat_natCast] at hw'; exact hb (hw' ▸ ha)
      · rw [e1, e2] at hw'; simp only [Int.toNat_natCast] at hw'; exact hb (hw'.trans ha)
    omega
  · intro h1 A hA hB
    apply Classical.byContradiction
    intro hno
    have hroot : ∀ v, v < n → rootF f v = 0 := fun v hv => by
      apply Classical.byContradiction
      intro hne
      have := root_le f v
      have := countN_two (n := n) (p := fun v => decide (f.getD v v = v)) (x := rootF f v) (y := 0) (by omega) (by omega) hne (by simpa using root_fix h.fo (by omega)) (by simpa using h0)
      omega
    have hcl : ∀ t ∈ es, A t.1.toNat = A t.2.1.toNat := fun t ht => by
      by_cases e : t.1 = t.2.1
      · rw [e]
      · have hb := he t ht
        have h1' := wgt_mem_le hpos ht (v := t.1.toNat) (u := t.2.1.toNat) ⟨e, .inl ⟨by omega, by omega⟩⟩
        have h2' := wgt_mem_le hpos ht (v := t.2.1.toNat) (u := t.1.toNat) ⟨e, .inr ⟨by omega, by omega⟩⟩
        have := hp t ht
        cases c1 : A t.1.toNat <;> cases c2 : A t.2.1.toNat
        · rfl
        · exact absurd ⟨_, _, by omega, by omega, c2, c1, by omega⟩ hno
        · exact absurd ⟨_, _, by omega, by omega, c1, c2, by omega⟩ hno
        · rfl
    have hs := h.sound A hcl
    obtain ⟨v, hv, ha⟩ := hA
    obtain ⟨u, hu, hb⟩ := hB
    have e1 := hs v (by omega)
    have e2 := hs u (by omega)
    rw [hroot v hv] at e1
    rw [hroot u hu] at e2
    rw [ha] at e1; rw [hb] at e2
    rw [e1] at e2; cases e2
end Go.Proofs.YtefggpdobjboeaaGreat
