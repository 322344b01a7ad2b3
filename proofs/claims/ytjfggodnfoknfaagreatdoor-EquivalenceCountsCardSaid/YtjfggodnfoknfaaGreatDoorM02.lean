/- How great a script can be: level sets. No program in sight.
   Burning: what can fire stays unburnt; where all burns, no part can fire. Firing a part that can. No program in sight.
   Edge lists: right ones, their weights, their Laplacian, what moves along them. No program in sight.
   Forests of parts: roots, joining, and when there is one part only. No program in sight.
   Words for graphs: a slice of edges (three ints each) that reads as triples.
   Contracts of package graph: vertex, compare, Check. -/
import Derived.Test.YtjfggodnfoknfaaGreatDoorM01
import Derived.Deep.RegionWith
set_option maxRecDepth 100000
set_option maxHeartbeats 16000000
namespace Go.Proofs.YtjfggodnfoknfaaGreatDoor

/-- What leaves a part, by its cut. -/
theorem cut_sum {n : Nat} {w : Nat → Nat → Int} (hs : ∀ v u, w v u = w u v) (s : Nat → Int) (a : Nat → Int) :
    (sumN n fun v => a v * lap n w s v) = sumN n fun v => sumN n fun u => a v * (1 - a u) * (w v u * (s v - s u)) := by
  have e1 : (sumN n fun v => a v * lap n w s v) = (sumN n fun v => sumN n fun u => a v * (1 - a u) * (w v u * (s v - s u))) + sumN n fun v => sumN n fun u => a v * a u * (w v u * (s v - s u)) := by
    rw [← sumN_add]
    refine sumN_congr fun v _ => ?_
    unfold lap
    rw [← sumN_mul, ← sumN_add]
    exact sumN_congr fun u _ => by grind
  have e2 : (sumN n fun v => sumN n fun u => a v * a u * (w v u * (s v - s u))) = -(sumN n fun v => sumN n fun u => a v * a u * (w v u * (s v - s u))) := by
    rw [← sumN_neg]
    conv => lhs; rw [sumN_swap]
    refine sumN_congr fun u _ => ?_
    rw [← sumN_neg]
    exact sumN_congr fun v _ => by rw [hs v u]; grind
  rw [e1]
  omega
def countN : Nat → (Nat → Bool) → Nat
  | 0, _ => 0
  | n + 1, p => countN n p + if p n then 1 else 0
theorem countN_le (n : Nat) (p : Nat → Bool) : countN n p ≤ n := by
  induction n with
  | zero => exact Nat.le_refl _
  | succ n ih => simp only [countN]; split <;> omega
theorem countN_mono {n : Nat} {p p' : Nat → Bool} (h : ∀ v, v < n → p v = true → p' v = true) : countN n p ≤ countN n p' := by
  induction n with
  | zero => exact Nat.le_refl _
  | succ n ih =>
    have := ih fun v hv => h v (by omega)
    have h2 := h n (by omega)
    simp only [countN]
    cases hp : p n with
    | false => simp; omega
    | true => rw [h2 hp]; simp; omega
theorem countN_lt {n : Nat} {p p' : Nat → Bool} (h : ∀ v, v < n → p v = true → p' v = true) {x : Nat} (hx : x < n) (h1 : p x = false) (h2 : p' x = true) : countN n p < countN n p' := by
  induction n with
  | zero => omega
  | succ n ih =>
    simp only [countN]
    by_cases e : x = n
    · subst e
      have := countN_mono (n := x) fun v hv => h v (by omega)
      rw [h1, h2]; simp; omega
    · have := ih (fun v hv => h v (by omega)) (by omega)
      have h3 := h n (by omega)
      cases hp : p n with
      | false => simp; omega
      | true => rw [h3 hp]; simp; omega
theorem countN_all {n : Nat} {p : Nat → Bool} (h : n ≤ countN n p) : ∀ v, v < n → p v = true := by
  induction n with
  | zero => intro v hv; omega
  | succ n ih =>
    have hl := countN_le n p
    simp only [countN] at h
    cases hp : p n with
    | false => rw [hp] at h; simp at h; omega
    | true =>
      rw [hp] at h; simp at h
      intro v hv
      by_cases e : v = n
      · rw [e]; exact hp
      · exact ih h v (by omega)
/-- A script that is 0 at q and moves at most B chips at each other vertex is at most n * n * B. -/
theorem script_le {n : Nat} {w : Nat → Nat → Int} (hw : ∀ v u, 0 ≤ w v u) (hs : ∀ v u, w v u = w u v) (hc : Conn n w) {q : Nat} (hq : q < n) {s : Nat → Int} (h0 : s q ≤ 0) {B : Int} (hB : 0 ≤ B)
    (h : ∀ v, v < n → v ≠ q → lap n w s v ≤ B) : ∀ v, v < n → s v ≤ n * (n * B) := by
  have hK : 0 ≤ (n : Int) * B := Int.mul_nonneg (by omega) hB
  have step : ∀ k : Nat, k + 1 ≤ countN n (fun v => decide (s v ≤ (k : Int) * ((n : Int) * B))) ∨ n ≤ countN n (fun v => decide (s v ≤ (k : Int) * ((n : Int) * B))) := by
    intro k
    induction k with
    | zero =>
      left
      have : countN n (fun _ => false) < countN n (fun v => decide (s v ≤ ((0 : Nat) : Int) * ((n : Int) * B))) := countN_lt (fun v _ e => by cases e) hq rfl (by simp; omega)
      omega
    | succ k ih =>
      have hup : ((k + 1 : Nat) : Int) * ((n : Int) * B) = (k : Int) * ((n : Int) * B) + (n : Int) * B := by push_cast; rw [Int.add_mul, Int.one_mul]
      rw [hup]
      have hsub : ∀ v, v < n → decide (s v ≤ (k : Int) * ((n : Int) * B)) = true → decide (s v ≤ (k : Int) * ((n : Int) * B) + (n : Int) * B) = true := fun v _ hv => by simp at hv ⊢; omega
      rcases ih with ih | ih
      · by_cases hall : n ≤ countN n (fun v => decide (s v ≤ (k : Int) * ((n : Int) * B)))
        · right; exact Nat.le_trans hall (countN_mono hsub)
        · left
          have hex : ∃ v, v < n ∧ ¬ s v ≤ (k : Int) * ((n : Int) * B) := by
            apply Classical.byContradiction
            intro hne
            have hle : countN n (fun _ => true) ≤ countN n (fun v => decide (s v ≤ (k : Int) * ((n : Int) * B))) := countN_mono fun v hv _ => by
              simp only [decide_eq_true_eq]
              apply Classical.byContradiction
              intro hv2
              exact hne ⟨v, hv, hv2⟩
            have hn : ∀ m, countN m (fun _ => true) = m := fun m => by induction m with | zero => rfl | succ m ih => simp [countN, ih]
            rw [hn] at hle
            exact hall hle
          obtain ⟨x, hx, hx2⟩ := hex
          have hk0 : 0 ≤ (k : Int) * ((n : Int) * B) := Int.mul_nonneg (by omega) hK
          obtain ⟨v, u, hv, hu, ha, hb, hwu⟩ := hc (fun v => decide (¬ s v ≤ (k : Int) * ((n : Int) * B))) ⟨x, hx, by simpa using hx2⟩ ⟨q, hq, by simp; omega⟩
          simp only [decide_eq_true_eq] at ha
          have hb' : s u ≤ (k : Int) * ((n : Int) * B) := by simpa using hb
          have hcut := cut_sum hs s (n := n) fun v => if s v ≤ (k : Int) * ((n : Int) * B) then 0 else 1
          have hup2 : (sumN n fun v => (if s v ≤ (k : Int) * ((n : Int) * B) then 0 else 1) * lap n w s v) ≤ (n : Int) * B := by
            have hn2 : ∀ m, (sumN m fun _ => B) = (m : Int) * B := fun m => by induction m with | zero => simp [sumN] | succ m ih => simp only [sumN, ih]; push_cast; rw [Int.add_mul, Int.one_mul]
            refine Int.le_trans (sumN_mono (g := fun _ => B) fun v hv => ?_) (Int.le_of_eq (hn2 n))
            split
            · simpa using hB
            · next hne => rw [Int.one_mul]; exact h v hv (fun e => by subst e; omega)
          rw [hcut] at hup2
          have hnn : ∀ v, v < n → 0 ≤ sumN n fun u => (if s v ≤ (k : Int) * ((n : Int) * B) then 0 else 1) * (1 - if s u ≤ (k : Int) * ((n : Int) * B) then 0 else 1) * (w v u * (s v - s u)) := fun v hv => sumN_nonneg fun u hu => by
            by_cases c1 : s v ≤ (k : Int) * ((n : Int) * B)
            · rw [if_pos c1]; simp
            · by_cases c2 : s u ≤ (k : Int) * ((n : Int) * B)
              · rw [if_neg c1, if_pos c2]
                have := Int.mul_nonneg (hw v u) (show 0 ≤ s v - s u by omega)
                omega
              · rw [if_neg c1, if_neg c2]; simp
          have t1 := sumN_ge hnn hv
          have t2 := sumN_ge (n := n) (c := u) (f := fun u => (if s v ≤ (k : Int) * ((n : Int) * B) then 0 else 1) * (1 - if s u ≤ (k : Int) * ((n : Int) * B) then 0 else 1) * (w v u * (s v - s u))) (fun u hu => by
            by_cases c2 : s u ≤ (k : Int) * ((n : Int) * B)
            · rw [if_neg ha, if_pos c2]
              have := Int.mul_nonneg (hw v u) (show 0 ≤ s v - s u by omega)
              omega
            · rw [if_neg ha, if_neg c2]; simp) hu
          simp only [if_neg ha, if_pos hb'] at t1 t2
          have t3 := Int.mul_le_mul_of_nonneg_right (show (1 : Int) ≤ w v u by omega) (show 0 ≤ s v - s u by omega)
          have hlast : s v ≤ (k : Int) * ((n : Int) * B) + (n : Int) * B := by omega
          have := countN_lt hsub hv (by simpa using ha) (by simpa using hlast)
          omega
      · right; exact Nat.le_trans ih (countN_mono hsub)
  intro v hv
  have hfin := step n
  have hl := countN_le n (fun v => decide (s v ≤ (n : Int) * ((n : Int) * B)))
  have := countN_all (n := n) (p := fun v => decide (s v ≤ (n : Int) * ((n : Int) * B))) (by omega) v hv
  simpa using this
end Go.Proofs.YtjfggodnfoknfaaGreatDoor

namespace Go.Proofs.YtjfggodnfoknfaaGreatDoor

/-- The edges from v into a part. -/
def joinw (n : Nat) (w : Nat → Nat → Int) (b : Nat → Bool) (v : Nat) : Int := sumN n fun u => if b u then w v u else 0
/-- A part that can fire without a debt in it. -/
def Legal (n : Nat) (w : Nat → Nat → Int) (d : Nat → Int) (A : Nat → Bool) : Prop := ∀ v, v < n → A v = true → outw n w A v ≤ d v
theorem burn_step {n : Nat} {w : Nat → Nat → Int} {d : Nat → Int} {A b : Nat → Bool} (hw : ∀ v u, 0 ≤ w v u) (hA : Legal n w d A) (hdis : ∀ u, u < n → b u = true → A u = false) {v : Nat} (hv : v < n) (hb : d v < joinw n w b v) : A v = false := by
  cases ha : A v with
  | false => rfl
  | true =>
    have h1 := hA v hv ha
    have h2 : joinw n w b v ≤ outw n w A v := by
      unfold joinw outw
      refine sumN_mono fun u hu => ?_
      have := hw v u
      cases hbu : b u with
      | true => rw [hdis u hu hbu]; simp
      | false => cases A u <;> simp <;> omega
    omega
theorem tight_of_burnt {n : Nat} {w : Nat → Nat → Int} {d : Nat → Int} {q : Nat} (h : ∀ A, A q = false → Legal n w d A → ∀ v, v < n → A v = false) : Tight n w q d := by
  intro A hq ⟨v, hv, ha⟩
  apply Classical.byContradiction
  intro hne
  have hl : Legal n w d A := fun u hu hau => by
    rcases Int.lt_or_le (d u) (outw n w A u) with c | c
    · exact absurd ⟨u, hu, hau, c⟩ hne
    · exact c
  have := h A hq hl v hv
  rw [ha] at this; cases this
theorem lap_ind {n : Nat} {w : Nat → Nat → Int} (A : Nat → Bool) (t : Int) (v : Nat) : lap n w (fun u => if A u then t else 0) v = if A v then t * outw n w A v else -(t * joinw n w A v) := by
  unfold lap outw joinw
  cases ha : A v with
  | true =>
    simp only [if_true]
    rw [← sumN_mul]
    exact sumN_congr fun u _ => by cases A u <;> simp <;> grind
  | false =>
    simp only [Bool.false_eq_true, if_false]
    rw [← sumN_mul, ← sumN_neg]
    exact sumN_congr fun u _ => by cases A u <;> simp <;> grind
/-- With the complement of the burnt part: the edges out of it are those into the burnt ones. -/
theorem outw_not (n : Nat) (w : Nat → Nat → Int) (b : Nat → Bool) (v : Nat) : outw n w (fun u => !b u) v = joinw n w b v := by
  unfold outw joinw
  exact sumN_congr fun u _ => by cases hb : b u <;> simp [hb]
theorem lap_add (n : Nat) (w : Nat → Nat → Int) (s t : Nat → Int) (v : Nat) : lap n w (fun u => s u + t u) v = lap n w s v + lap n w t v := by
  unfold lap
  rw [← sumN_add]
  exact sumN_congr fun u _ => by grind
theorem lap_congr {n : Nat} {w : Nat → Nat → Int} {s t : Nat → Int} {v : Nat} (hv : v < n) (h : ∀ u, u < n → s u = t u) : lap n w s v = lap n w t v := by
  unfold lap
  exact sumN_congr fun u hu => by rw [h v hv, h u hu]
/-- A part that is not all, without q, has a vertex with edges out of it. -/
theorem some_out {n : Nat} {w : Nat → Nat → Int} (hw : ∀ v u, 0 ≤ w v u) (hc : Conn n w) {A : Nat → Bool} {q : Nat} (hq : q < n) (hAq : A q = false) (hA : ∃ v, v < n ∧ A v = true) : ∃ v, v < n ∧ A v = true ∧ 0 < outw n w A v := by
  obtain ⟨v, u, hv, hu, ha, hb, hwu⟩ := hc A hA ⟨q, hq, hAq⟩
  refine ⟨v, hv, ha, ?_⟩
  have := sumN_ge (n := n) (c := u) (f := fun u => if A u then 0 else w v u) (fun i _ => by split; exact Int.le_refl _; exact hw v i) hu
  simp only [hb, Bool.false_eq_true, if_false] at this
  unfold outw
  omega
end Go.Proofs.YtjfggodnfoknfaaGreatDoor

namespace Go.Proofs.YtjfggodnfoknfaaGreatDoor

/-- An edge: both ends, and how many. -/
abbrev Tri := Int × Int × Int
def okE (n : Int) (last : Int × Int) (t : Tri) : Int :=
  if t.1 < 0 ∨ n ≤ t.1 ∨ t.2.1 < 0 ∨ n ≤ t.2.1 ∨ t.2.2 < 1 ∨ 50 < t.2.2 then 2 else if t.2.1 < t.1 ∨ t.1 < last.1 ∨ (t.1 = last.1 ∧ t.2.1 ≤ last.2) then 9 else 0
def gcheckL (n : Int) : Int × Int → List Tri → Int
  | _, [] => 0
  | last, t :: r => if okE n last t ≠ 0 then okE n last t else gcheckL n (t.1, t.2.1) r
def gcheckE (n : Int) (es : List Tri) : Int := if n < 1 ∨ 12 < n then 2 else gcheckL n (-1, -1) es
def LexLt (s t : Tri) : Prop := s.1 < t.1 ∨ (s.1 = t.1 ∧ s.2.1 < t.2.1)
/-- Right edges of n vertices. -/
structure Edges (n : Nat) (es : List Tri) : Prop where
  lo : ∀ t ∈ es, 0 ≤ t.1 ∧ t.1 ≤ t.2.1 ∧ t.2.1 < n
  mult : ∀ t ∈ es, 1 ≤ t.2.2 ∧ t.2.2 ≤ 50
  ord : es.Pairwise LexLt
theorem okE_zero {n : Int} {last : Int × Int} {t : Tri} (h : okE n last t = 0) : 0 ≤ t.1 ∧ t.1 ≤ t.2.1 ∧ t.2.1 < n ∧ 1 ≤ t.2.2 ∧ t.2.2 ≤ 50 ∧ (last.1 < t.1 ∨ (last.1 = t.1 ∧ last.2 < t.2.1)) := by
  unfold okE at h
  by_cases a : t.1 < 0 ∨ n ≤ t.1 ∨ t.2.1 < 0 ∨ n ≤ t.2.1 ∨ t.2.2 < 1 ∨ 50 < t.2.2
  · rw [if_pos a] at h; cases h
  · rw [if_neg a] at h
    by_cases b : t.2.1 < t.1 ∨ t.1 < last.1 ∨ (t.1 = last.1 ∧ t.2.1 ≤ last.2)
    · rw [if_pos b] at h; cases h
    · omega
theorem gcheckL_zero {n : Nat} {es : List Tri} {last : Int × Int} (h : gcheckL n last es = 0) : Edges n es ∧ ∀ t ∈ es, last.1 < t.1 ∨ (last.1 = t.1 ∧ last.2 < t.2.1) := by
  induction es generalizing last with
  | nil => exact ⟨⟨by simp, by simp, List.Pairwise.nil⟩, by simp⟩
  | cons t r ih =>
    unfold gcheckL at h
    by_cases e : okE n last t = 0
    · simp only [e, ne_eq, not_true_eq_false, if_false] at h
      obtain ⟨h1, h2, h3, h4, h5, h6⟩ := okE_zero e
      obtain ⟨g, gl⟩ := ih h
      refine ⟨⟨?_, ?_, List.Pairwise.cons (fun s hs => gl s hs) g.ord⟩, ?_⟩
      · intro s hs
        rcases List.mem_cons.1 hs with rfl | hs
        · exact ⟨h1, h2, h3⟩
        · exact g.lo s hs
      · intro s hs
        rcases List.mem_cons.1 hs with rfl | hs
        · exact ⟨h4, h5⟩
        · exact g.mult s hs
      · intro s hs
        rcases List.mem_cons.1 hs with rfl | hs
        · exact h6
        · have := gl s hs; simp only at this; omega
    · simp [e] at h
theorem gcheckE_zero {n : Int} {es : List Tri} (h : gcheckE n es = 0) : ∃ m : Nat, n = m ∧ 1 ≤ m ∧ m ≤ 12 ∧ Edges m es := by
  unfold gcheckE at h
  by_cases a : n < 1 ∨ 12 < n
  · rw [if_pos a] at h; cases h
  · rw [if_neg a] at h
    obtain ⟨m, rfl⟩ := Int.eq_ofNat_of_zero_le (show 0 ≤ n by omega)
    exact ⟨m, rfl, by omega, by omega, (gcheckL_zero h).1⟩

/-- What an edge adds to the weight of two vertices. -/
def ew (t : Tri) (v u : Nat) : Int := if t.1 ≠ t.2.1 ∧ ((t.1 = v ∧ t.2.1 = u) ∨ (t.1 = u ∧ t.2.1 = v)) then t.2.2 else 0
def wgt : List Tri → Nat → Nat → Int
  | [], _, _ => 0
  | t :: r, v, u => ew t v u + wgt r v u
theorem ew_sym (t : Tri) (v u : Nat) : ew t v u = ew t u v := by
  unfold ew
  split <;> split <;> first | rfl | (exfalso; omega)
theorem wgt_sym (es : List Tri) (v u : Nat) : wgt es v u = wgt es u v := by
  induction es with
  | nil => rfl
  | cons t r ih => simp only [wgt, ih, ew_sym t v u]
theorem ew_self (t : Tri) (v : Nat) : ew t v v = 0 := by
  unfold ew
  rw [if_neg]
  rintro ⟨h1, h2⟩
  rcases h2 with h2 | h2 <;> exact h1 (h2.1.trans h2.2.symm)
theorem wgt_self (es : List Tri) (v : Nat) : wgt es v v = 0 := by
  induction es with
  | nil => rfl
  | cons t r ih => simp only [wgt, ih, ew_self]; rfl
theorem ew_nonneg {t : Tri} (h : 0 ≤ t.2.2) (v u : Nat) : 0 ≤ ew t v u := by unfold ew; split <;> omega
theorem wgt_nonneg {es : List Tri} (h : ∀ t ∈ es, 0 ≤ t.2.2) (v u : Nat) : 0 ≤ wgt es v u := by
  induction es with
  | nil => exact Int.le_refl _
  | cons t r ih =>
    have h1 := ew_nonneg (h t (List.mem_cons_self ..)) v u
    have h2 := ih fun s hs => h s (List.mem_cons_of_mem _ hs)
    simp only [wgt]; omega
theorem wgt_pos_mem {es : List Tri} {v u : Nat} (h : 0 < wgt es v u) : ∃ t ∈ es, t.1 ≠ t.2.1 ∧ ((t.1 = v ∧ t.2.1 = u) ∨ (t.1 = u ∧ t.2.1 = v)) := by
  induction es with
  | nil => simp [wgt] at h
  | cons t r ih =>
    by_cases a : t.1 ≠ t.2.1 ∧ ((t.1 = v ∧ t.2.1 = u) ∨ (t.1 = u ∧ t.2.1 = v))
    · exact ⟨t, List.mem_cons_self .., a⟩
    · simp only [wgt, ew, if_neg a] at h
      obtain ⟨s, hs, hh⟩ := ih (by omega)
      exact ⟨s, List.mem_cons_of_mem _ hs, hh⟩
theorem wgt_mem_le {es : List Tri} (h : ∀ t ∈ es, 0 ≤ t.2.2) {t : Tri} (ht : t ∈ es) {v u : Nat} (he : t.1 ≠ t.2.1 ∧ ((t.1 = v ∧ t.2.1 = u) ∨ (t.1 = u ∧ t.2.1 = v))) : t.2.2 ≤ wgt es v u := by
  induction es with
  | nil => cases ht
  | cons s r ih =>
    have h1 := ew_nonneg (h s (List.mem_cons_self ..)) v u
    have h2 := wgt_nonneg (fun s hs => h s (List.mem_cons_of_mem _ hs)) v u (es := r)
    rcases List.mem_cons.1 ht with rfl | ht
    · simp only [wgt, ew, if_pos he]; omega
    · have := ih (fun s hs => h s (List.mem_cons_of_mem _ hs)) ht
      simp only [wgt]; omega

/-- How many single edges. -/
def multS (es : List Tri) : Int := (es.map fun t => t.2.2).sum
theorem multS_cons (t : Tri) (r : List Tri) : multS (t :: r) = t.2.2 + multS r := by simp [multS]
theorem multS_nonneg {es : List Tri} (h : ∀ t ∈ es, 0 ≤ t.2.2) : 0 ≤ multS es := by
  induction es with
  | nil => exact Int.le_refl _
  | cons t r ih =>
    have := h t (List.mem_cons_self ..)
    have := ih fun s hs => h s (List.mem_cons_of_mem _ hs)
    rw [multS_cons]; omega

/-- What one edge moves, by both its ends. -/
def lapT1 (t : Tri) (s : Nat → Int) (v : Nat) : Int :=
  if t.1 = t.2.1 then 0 else if t.1 = v then t.2.2 * (s v - s t.2.1.toNat) else if t.2.1 = v then t.2.2 * (s v - s t.1.toNat) else 0
def lapE : List Tri → (Nat → Int) → Nat → Int
  | [], _, _ => 0
  | t :: r, s, v => lapT1 t s v + lapE r s v
def Ends (n : Nat) (es : List Tri) : Prop := ∀ t ∈ es, 0 ≤ t.1 ∧ t.1 < n ∧ 0 ≤ t.2.1 ∧ t.2.1 < n
theorem Edges.ends {n : Nat} {es : List Tri} (h : Edges n es) : Ends n es := fun t ht => by have := h.lo t ht; omega
theorem Ends.tail {n : Nat} {t : Tri} {es : List Tri} (h : Ends n (t :: es)) : Ends n es := fun s hs => h s (List.mem_cons_of_mem _ hs)
theorem Edges.pos {n : Nat} {es : List Tri} (h : Edges n es) : ∀ t ∈ es, 0 ≤ t.2.2 := fun t ht => by have := h.mult t ht; omega

/-- A sum over the neighbours along one edge. -/
theorem sum_ew {n : Nat} {t : Tri} (h : 0 ≤ t.1 ∧ t.1 < n ∧ 0 ≤ t.2.1 ∧ t.2.1 < n) (f : Nat → Int) (v : Nat) :
    (sumN n fun u => ew t v u * f u) = if t.1 = t.2.1 then 0 else if t.1 = v then t.2.2 * f t.2.1.toNat else if t.2.1 = v then t.2.2 * f t.1.toNat else 0 := by
  by_cases e : t.1 = t.2.1
  · rw [if_pos e]
    exact sumN_zero fun u _ => by unfold ew; rw [if_neg fun hh => hh.1 e]; simp
  · rw [if_neg e]
    by_cases a : t.1 = v
    · rw [if_pos a, sumN_one (c := t.2.1.toNat) (by omega)]
      · unfold ew; rw [if_pos ⟨e, .inl ⟨a, by omega⟩⟩]
      · intro u hu hne
        unfold ew
        rw [if_neg]
        · simp
        · rintro ⟨-, hh⟩
          rcases hh with hh | hh <;> omega
    · rw [if_neg a]
      by_cases b : t.2.1 = v
      · rw [if_pos b, sumN_one (c := t.1.toNat) (by omega)]
        · unfold ew; rw [if_pos ⟨e, .inr ⟨by omega, b⟩⟩]
        · intro u hu hne
          unfold ew
          rw [if_neg]
          · simp
          · rintro ⟨-, hh⟩
            rcases hh with hh | hh <;> omega
      · rw [if_neg b]
        exact sumN_zero fun u _ => by
          unfold ew
          rw [if_neg]
          · simp
          · rintro ⟨-, hh⟩
            rcases hh with hh | hh <;> omega
theorem lap_edges {n : Nat} {es : List Tri} (h : Ends n es) (s : Nat → Int) (v : Nat) : lap n (wgt es) s v = lapE es s v := by
  induction es with
  | nil => exact sumN_zero fun u _ => by simp [wgt]
  | cons t r ih =>
    have h1 := sum_ew (h t (List.mem_cons_self ..)) (fun u => s v - s u) v
    have h2 := ih h.tail
    unfold lap at h2 ⊢
    simp only [wgt, Int.add_mul, lapE]
    rw [sumN_add, h2, h1]
    rfl
/-- The single edges from v to vertices with a property. -/
def joinT1 (t : Tri) (p : Nat → Bool) (v : Nat) : Int := if t.1 ≠ t.2.1 ∧ (t.1 = v ∨ t.2.1 = v) ∧ p (t.1 + t.2.1 - v).toNat = true then t.2.2 else 0
def joinE : List Tri → (Nat → Bool) → Nat → Int
  | [], _, _ => 0
  | t :: r, p, v => joinT1 t p v + joinE r p v
theorem join_edges {n : Nat} {es : List Tri} (h : Ends n es) (p : Nat → Bool) (v : Nat) : joinw n (wgt es) p v = joinE es p v := by
  have e : ∀ (W : Nat → Nat → Int), joinw n W p v = sumN n fun u => W v u * if p u then 1 else 0 := fun W => by
    unfold joinw
    exact sumN_congr fun u _ => by split <;> simp
  rw [e]
  induction es with
  | nil => exact sumN_zero fun u _ => by simp [wgt]
  | cons t r ih =>
    have h1 := sum_ew (h t (List.mem_cons_self ..)) (fun u => if p u then 1 else 0) v
    have h2 := ih h.tail
    have h0 := h t (List.mem_cons_self ..)
    simp only [wgt, Int.add_mul, joinE]
    rw [sumN_add, h2, h1]
    congr 1
    unfold joinT1
    by_cases a : t.1 = t.2.1
    · rw [if_pos a, if_neg fun hh => hh.1 a]
    · rw [if_neg a]
      by_cases b : t.1 = v
      · rw [if_pos b, show t.1 + t.2.1 - v = t.2.1 by omega]
        by_cases c : p t.2.1.toNat = true
        · rw [if_pos c, if_pos ⟨a, .inl b, c⟩]; simp
        · rw [if_neg c, if_neg fun hh => c hh.2.2]; simp
      · rw [if_neg b]
        by_cases b2 : t.2.1 = v
        · rw [if_pos b2, show t.1 + t.2.1 - v = t.1 by omega]
          by_cases c : p t.1.toNat = true
          · rw [if_pos c, if_pos ⟨a, .inr b2, c⟩]; simp
          · rw [if_neg c, if_neg fun hh => c hh.2.2]; simp
        · rw [if_neg b2, if_neg fun hh => by rcases hh.2.1 with x | x <;> contradiction]
theorem joinE_le {es : List Tri} (h : ∀ t ∈ es, 0 ≤ t.2.2) (p : Nat → Bool) (v : Nat) : 0 ≤ joinE es p v ∧ joinE es p v ≤ multS es := by
  induction es with
  | nil => simp [joinE, multS]
  | cons t r ih =>
    have h1 := h t (List.mem_cons_self ..)
    have h2 := ih fun s hs => h s (List.mem_cons_of_mem _ hs)
    rw [multS_cons]
    have : 0 ≤ joinT1 t p v ∧ joinT1 t p v ≤ t.2.2 := by unfold joinT1; split <;> omega
    simp only [joinE]; omega
end Go.Proofs.YtjfggodnfoknfaaGreatDoor

namespace Go.Proofs.YtjfggodnfoknfaaGreatDoor

/-- The vertex that stands for a part. -/
def rootF (f : List Nat) (v : Nat) : Nat := if _h : f.getD v v < v then rootF f (f.getD v v) else v
termination_by v
/-- A forest of 12 vertices: nobody has a greater one. -/
def Fo (f : List Nat) : Prop := f.length = 12 ∧ ∀ v, v < 12 → f.getD v v ≤ v
theorem root_unf (f : List Nat) (v : Nat) : rootF f v = if f.getD v v < v then rootF f (f.getD v v) else v := by
  rw [rootF]; split <;> rfl
theorem root_le (f : List Nat) (v : Nat) : rootF f v ≤ v := by
  induction v using Nat.strongRecOn with
  | _ v ih =>
    rw [root_unf]
    split
    · next h => have := ih _ h; omega
    · omega
theorem root_fix {f : List Nat} (h : Fo f) {v : Nat} (hv : v < 12) : f.getD (rootF f v) (rootF f v) = rootF f v := by
  induction v using Nat.strongRecOn with
  | _ v ih =>
    rw [root_unf]
    split
    · next hl => exact ih _ hl (by omega)
    · have := h.2 v hv; omega
theorem root_of_fix {f : List Nat} {v : Nat} (h : f.getD v v = v) : rootF f v = v := by
  rw [root_unf, if_neg (by omega)]
theorem root_step {f : List Nat} (h : Fo f) {v : Nat} (hv : v < 12) : rootF f (f.getD v v) = rootF f v := by
  have := h.2 v hv
  rcases Nat.lt_or_ge (f.getD v v) v with c | c
  · conv => rhs; rw [root_unf, if_pos c]
  · rw [show f.getD v v = v by omega]
theorem getD_set_nat (l : List Nat) (i x j d : Nat) (hi : i < l.length) : (l.set i x).getD j d = if i = j then x else l.getD j d := by
  rw [List.getD_eq_getElem?_getD, List.getElem?_set]
  by_cases e : i = j
  · subst e; rw [if_pos rfl, if_pos rfl, if_pos hi]; rfl
  · rw [if_neg e, if_neg e, List.getD_eq_getElem?_getD]
def joinF (f : List Nat) (a b : Nat) : List Nat := f.set (max (rootF f a) (rootF f b)) (min (rootF f a) (rootF f b))
theorem joinF_fo {f : List Nat} (h : Fo f) {a b : Nat} (ha : a < 12) (hb : b < 12) : Fo (joinF f a b) := by
  have h1 := root_le f a
  have h2 := root_le f b
  refine ⟨by simp [joinF, h.1], fun v hv => ?_⟩
  unfold joinF
  rw [getD_set_nat _ _ _ _ _ (by rw [h.1]; omega)]
  split
  · omega
  · exact h.2 v hv
theorem joinF_root {f : List Nat} (h : Fo f) {a b : Nat} (ha : a < 12) (hb : b < 12) {v : Nat} (hv : v < 12) :
    rootF (joinF f a b) v = if rootF f v = max (rootF f a) (rootF f b) then min (rootF f a) (rootF f b) else rootF f v := by
  have h1 := root_le f a
  have h2 := root_le f b
  have fa := root_fix h ha
  have fb := root_fix h hb
  have hmn : rootF (joinF f a b) (min (rootF f a) (rootF f b)) = min (rootF f a) (rootF f b) := by
    apply root_of_fix
    unfold joinF
    rw [getD_set_nat _ _ _ _ _ (by rw [h.1]; omega)]
    split
    · rfl
    · rcases Nat.le_total (rootF f a) (rootF f b) with c | c
      · rw [Nat.min_eq_left c]; exact fa
      · rw [Nat.min_eq_right c]; exact fb
  induction v using Nat.strongRecOn with
  | _ v ih =>
    have hj : (joinF f a b).getD v v = if max (rootF f a) (rootF f b) = v then min (rootF f a) (rootF f b) else f.getD v v := by
      unfold joinF
      exact getD_set_nat _ _ _ _ _ (by rw [h.1]; omega)
    by_cases e : max (rootF f a) (rootF f b) = v
    · have hr : rootF f v = v := by
        apply root_of_fix
        rw [← e]
        rcases Nat.le_total (rootF f a) (rootF f b) with c | c
        · rw [Nat.max_eq_right c]; exact fb
        · rw [Nat.max_eq_left c]; exact fa
      rw [hr, if_pos e.symm, root_unf, hj, if_pos e]
      split
      · exact hmn
      · omega
    · rw [root_unf, hj, if_neg e]
      by_cases c : f.getD v v < v
      · rw [if_pos c, ih _ c (by omega), root_step h hv]
      · have hr : rootF f v = v := by rw [root_unf, if_neg c]
        rw [if_neg c, hr, if_neg fun hh => e hh.symm]
def grownF : List Nat := List.range 12
theorem grown_get (v : Nat) (hv : v < 12) : grownF.getD v v = v := by
  unfold grownF; rw [List.getD_eq_getElem?_getD, List.getElem?_range hv]; rfl
theorem grown_fo : Fo grownF := ⟨by simp [grownF], fun v hv => by rw [grown_get v hv]; exact Nat.le_refl _⟩
def joinAll (f : List Nat) (es : List Tri) : List Nat := es.foldl (fun g t => joinF g t.1.toNat t.2.1.toNat) f
/-- What a forest says of the edges that were joined. -/
structure Says (n : Nat) (es : List Tri) (f : List Nat) : Prop where
  fo : Fo f
  sound : ∀ A : Nat → Bool, (∀ t ∈ es, A t.1.toNat = A t.2.1.toNat) → ∀ v, v < 12 → A (rootF f v) = A v
  whole : ∀ t ∈ es, rootF f t.1.toNat = rootF f t.2.1.toNat
theorem says_nil (n : Nat) : Says n [] grownF := ⟨grown_fo, fun A _ v hv => by rw [root_of_fix (grown_get v hv)], by simp⟩
theorem Says.snoc {n : Nat} {es : List Tri} {f : List Nat} (h : Says n es f) {t : Tri} (ha : t.1.toNat < 12) (hb : t.2.1.toNat < 12) : Says n (es ++ [t]) (joinF f t.1.toNat t.2.1.toNat) := by
  refine ⟨joinF_fo h.fo ha hb, fun A hA v hv => ?_, fun s hs => ?_⟩
  · have hA1 := h.sound A fun s hs => hA s (List.mem_append_left _ hs)
    have hA2 := hA t (by simp)
    rw [joinF_root h.fo ha hb hv]
    split
    · next e =>
      have e1 := hA1 v hv
      have e2 := hA1 _ ha
      have e3 := hA1 _ hb
      rw [e] at e1
      rcases Nat.le_total (rootF f t.1.toNat) (rootF f t.2.1.toNat) with c | c
      · rw [Nat.max_eq_right c] at e1; rw [Nat.min_eq_left c, ← e1, e2, e3, hA2]
      · rw [Nat.max_eq_left c] at e1; rw [Nat.min_eq_right c, ← e1, e2, e3, hA2]
    · exact hA1 v hv
  · rcases List.mem_append.1 hs with hs | hs
    · have hw := h.whole s hs
      rcases Nat.lt_or_ge s.1.toNat 12 with c1 | c1
      · rcases Nat.lt_or_ge s.2.1.toNat 12 with c2 | c2
        · rw [joinF_root h.fo ha hb c1, joinF_root h.fo ha hb c2, hw]
        · exfalso
          have e : rootF f s.2.1.toNat = s.2.1.toNat := by
            rw [root_unf, if_neg]
            rw [List.getD_eq_getElem?_getD, List.getElem?_eq_none (by rw [h.fo.1]; exact c2)]
            simp
          have := root_le f s.1.toNat
          omega
      · rcases Nat.lt_or_ge s.2.1.toNat 12 with c2 | c2
        · exfalso
          have e : rootF f s.1.toNat = s.1.toNat := by
            rw [root_unf, if_neg]
            rw [List.getD_eq_getElem?_getD, List.getElem?_eq_none (by rw [h.fo.1]; exact c1)]
            simp
          have := root_le f s.2.1.toNat
          omega
        · have e : ∀ (g : List Nat) (v : Nat), g.length = 12 → 12 ≤ v → rootF g v = v := fun g v hg hv => by
            rw [root_unf, if_neg]
            rw [List.getD_eq_getElem?_getD, List.getElem?_eq_none (by omega)]
            simp
          rw [e f _ h.fo.1 c1, e f _ h.fo.1 c2] at hw
          rw [hw]
    · simp only [List.mem_singleton] at hs
      subst hs
      rw [joinF_root h.fo ha hb ha, joinF_root h.fo ha hb hb]
      by_cases c1 : rootF f s.1.toNat = max (rootF f s.1.toNat) (rootF f s.2.1.toNat) <;> by_cases c2 : rootF f s.2.1.toNat = max (rootF f s.1.toNat) (rootF f s.2.1.toNat)
      · rw [if_pos c1, if_pos c2]
      · rw [if_pos c1, if_neg c2]; omega
      · rw [if_neg c1, if_pos c2]; omega
      · exfalso; omega
theorem joinAll_says {n : Nat} (hn : n ≤ 12) (es pre : List Tri) (f : List Nat) (h : Says n pre f) (he : Ends n es) : Says n (pre ++ es) (joinAll f es) := by
  induction es generalizing pre f with
  | nil => simpa [joinAll] using h
  | cons t r ih =>
    have ht := he t (List.mem_cons_self ..)
    have := ih (pre ++ [t]) _ (h.snoc (t := t) (by omega) (by omega)) he.tail
    simpa [joinAll] using this
/-- How many parts. -/
def partsN (n : Nat) (f : List Nat) : Nat := countN n fun v => decide (f.getD v v = v)
theorem countN_pos {n : Nat} {p : Nat → Bool} {x : Nat} (hx : x < n) (h : p x = true) : 1 ≤ countN n p := by
  have := countN_lt (p := fun _ => false) (p' := p) (fun _ _ e => by cases e) hx rfl h
  omega
theorem countN_two {n : Nat} {p : Nat → Bool} {x y : Nat} (hx : x < n) (hy : y < n) (hne : x ≠ y) (h : p x = true) (h' : p y = true) : 2 ≤ countN n p := by
  have h1 := countN_pos (p := fun v => decide (v = x)) hx (by simp)
  have := countN_lt (n := n) (p := fun v => decide (v = x)) (p' := p) (fun v _ e => by simp at e; subst e; exact h) hy (by simp; exact fun e => hne e.symm) h'
  omega
theorem countN_le_one {n : Nat} {p : Nat → Bool} {x : Nat} (h : ∀ v, v < n → p v = true → v = x) : countN n p ≤ 1 := by
  induction n with
  | zero => exact Nat.zero_le _
  | succ n ih =>
    simp only [countN]
    by_cases hp : p n = true
    · have hx := h n (by omega) hp
      have : countN n p ≤ countN n fun _ => false := countN_mono fun v hv hpv => by
        have := h v (by omega) hpv; omega
      have e : ∀ m, countN m (fun _ => false) = 0 := fun m => by induction m with | zero => rfl | succ m ih => simp [countN, ih]
      rw [e] at this
      rw [if_pos hp]; omega
    · rw [if_neg hp]; exact ih fun v hv => h v (by omega)
theorem conn_parts {n : Nat} {es : List Tri} {f : List Nat} (hn1 : 1 ≤ n) (hn : n ≤ 12) (he : Ends n es) (hp : ∀ t ∈ es, 1 ≤ t.2.2) (h : Says n es f) : Conn n (wgt es) ↔ partsN n f = 1 := by
  have h0 : f.getD 0 0 = 0 := by have := h.fo.2 0 (by omega); omega
  have hpos : ∀ t ∈ es, 0 ≤ t.2.2 := fun t ht => by have := hp t ht; omega
  unfold partsN
  constructor
  · intro hc
    have hge := countN_pos (n := n) (p := fun v => decide (f.getD v v = v)) (x := 0) (by omega) (by simpa using h0)
    have hle : countN n (fun v => decide (f.getD v v = v)) ≤ 1 := countN_le_one (x := 0) fun r hr hpr => by
      simp only [decide_eq_true_eq] at hpr
      apply Classical.byContradiction
      intro hne
      obtain ⟨v, u, hv, hu, ha, hb, hw⟩ := hc (fun v => decide (rootF f v = r)) ⟨r, hr, by simp [root_of_fix hpr]⟩ ⟨0, by omega, by simp only [decide_eq_false_iff_not]; rw [root_of_fix h0]; omega⟩
      simp only [decide_eq_true_eq, decide_eq_false_iff_not] at ha hb
      obtain ⟨t, ht, hne', hh⟩ := wgt_pos_mem hw
      have hw' := h.whole t ht
      rcases hh with ⟨e1, e2⟩ | ⟨e1, e2⟩
      · rw [e1, e2] at hw'; simp only [Int.toNat_natCast] at hw'; exact hb (hw' ▸ ha)
      · rw [e1, e2] at hw'; simp only [Int.toNat_natCast] at hw'; exact hb (hw'.trans ha)
    omega
  · intro h1 A hA hB
    apply Classical.byContradiction
    intro hno
    have hroot : ∀ v, v < n → rootF f v = 0 := fun v hv => by
      apply Classical.byContradiction
      intro hne
      have := root_le f v
      have := countN_two (n := n) (p := fun v => decide (f.getD v v = v)) (x := rootF f v) (y := 0) (by omega) (by omega) hne (by simpa using root_fix h.fo (by omega)) (by simpa using h0)
      omega
    have hcl : ∀ t ∈ es, A t.1.toNat = A t.2.1.toNat := fun t ht => by
      by_cases e : t.1 = t.2.1
      · rw [e]
      · have hb := he t ht
        have h1' := wgt_mem_le hpos ht (v := t.1.toNat) (u := t.2.1.toNat) ⟨e, .inl ⟨by omega, by omega⟩⟩
        have h2' := wgt_mem_le hpos ht (v := t.2.1.toNat) (u := t.1.toNat) ⟨e, .inr ⟨by omega, by omega⟩⟩
        have := hp t ht
        cases c1 : A t.1.toNat <;> cases c2 : A t.2.1.toNat
        · rfl
        · exact absurd ⟨_, _, by omega, by omega, c2, c1, by omega⟩ hno
        · exact absurd ⟨_, _, by omega, by omega, c1, c2, by omega⟩ hno
        · rfl
    have hs := h.sound A hcl
    obtain ⟨v, hv, ha⟩ := hA
    obtain ⟨u, hu, hb⟩ := hB
    have e1 := hs v (by omega)
    have e2 := hs u (by omega)
    rw [hroot v hv] at e1
    rw [hroot u hu] at e2
    rw [ha] at e1; rw [hb] at e2
    rw [e1] at e2; cases e2
end Go.Proofs.YtjfggodnfoknfaaGreatDoor

namespace Go.Proofs.YtjfggodnfoknfaaGreatDoor
open Go.RowKit

/-- The slice value v reads as edges: both ends and how many. -/
def EV (w : World) (v : Value) (es : List Tri) : Prop := ∃ A c, v = .slice A es.length c ∧ es.length ≤ c ∧ es.length ≤ 17592186044415 ∧
  ∀ k, k < es.length → ∃ ad a b m, A = some ad ∧ ad.block < w.heap.size ∧ Hid (es[k]? = some (a, b, m)) ∧ w.cell? (ad.add (k * 3)) = some (.int .i64 a) ∧ w.cell? ⟨(ad.add (k * 3)).block, (ad.add (k * 3)).off + 1, none⟩ = some (.int .i64 b) ∧ w.cell? ⟨(ad.add (k * 3)).block, (ad.add (k * 3)).off + 2, none⟩ = some (.int .i64 m)
theorem EV.below {w w' : World} {v : Value} {es : List Tri} (h : EV w v es) (hb : Below w.heap.size w w') : EV w' v es := by
  obtain ⟨A, c, h1, h2, h3, h4⟩ := h
  refine ⟨A, c, h1, h2, h3, fun k hk => ?_⟩
  obtain ⟨ad, a, b, m, e, hl, ht, c1, c2, c3⟩ := h4 k hk
  have hs := hb.size
  refine ⟨ad, a, b, m, e, by omega, ht, ?_, ?_, ?_⟩
  · exact (hb.cell (by rw [block_of_add]; exact hl)).trans c1
  · exact (hb.cell (by rw [block_of_add]; exact hl)).trans c2
  · exact (hb.cell (by rw [block_of_add]; exact hl)).trans c3
/-- The cells of the edges, in a later world. -/
theorem tri_cells {w wr : World} {ad : Addr} {k : Nat} {B : Nat} {a b m : Int} (hb : Below B w wr) (hl : ad.block < B)
    (c1 : w.cell? (ad.add (k * 3)) = some (.int .i64 a)) (c2 : w.cell? ⟨(ad.add (k * 3)).block, (ad.add (k * 3)).off + 1, none⟩ = some (.int .i64 b)) (c3 : w.cell? ⟨(ad.add (k * 3)).block, (ad.add (k * 3)).off + 2, none⟩ = some (.int .i64 m)) :
    wr.cell? (ad.add (k * 3)) = some (.int .i64 a) ∧ wr.cell? ⟨(ad.add (k * 3)).block, (ad.add (k * 3)).off + 1, none⟩ = some (.int .i64 b) ∧ wr.cell? ⟨(ad.add (k * 3)).block, (ad.add (k * 3)).off + 2, none⟩ = some (.int .i64 m) :=
  ⟨(hb.cell (by rw [block_of_add]; exact hl)).trans c1, (hb.cell (by rw [block_of_add]; exact hl)).trans c2, (hb.cell (by rw [block_of_add]; exact hl)).trans c3⟩
/-- The value g reads as a graph: a number and its edges. -/
def GV (w : World) (g : Value) (n : Int) (es : List Tri) : Prop := ∃ v, g = .agg #[.int .i64 n, v] ∧ EV w v es
theorem GV.below {w w' : World} {g : Value} {n : Int} {es : List Tri} (h : GV w g n es) (hb : Below w.heap.size w w') : GV w' g n es := by
  obtain ⟨v, e, h⟩ := h
  exact ⟨v, e, h.below hb⟩
theorem GV.open_ {w : World} {g : Value} {n : Int} {es : List Tri} (h : GV w g n es) : ∃ A c, g = .agg #[.int .i64 n, .slice A es.length c] ∧ es.length ≤ c ∧ es.length ≤ 17592186044415 ∧
    ∀ k, k < es.length → ∃ ad a b m, A = some ad ∧ ad.block < w.heap.size ∧ Hid (es[k]? = some (a, b, m)) ∧ w.cell? (ad.add (k * 3)) = some (.int .i64 a) ∧ w.cell? ⟨(ad.add (k * 3)).block, (ad.add (k * 3)).off + 1, none⟩ = some (.int .i64 b) ∧ w.cell? ⟨(ad.add (k * 3)).block, (ad.add (k * 3)).off + 2, none⟩ = some (.int .i64 m) := by
  obtain ⟨v, rfl, A, c, rfl, h1, h2, h3⟩ := h
  exact ⟨A, c, rfl, h1, h2, h3⟩
theorem ret_i {k : IntKind} {a b : Int} (h : a = b) : Ending.returned (.int k a) = .returned (.int k b) := by rw [h]
theorem ret_b {a b : Bool} (h : a = b) : Ending.returned (.bool a) = .returned (.bool b) := by rw [h]
end Go.Proofs.YtjfggodnfoknfaaGreatDoor

namespace Go.Proofs.YtjfggodnfoknfaaGreatDoor
open Go.RowKit

def cmpI (x y : Int) : Int := if x < y then -1 else if y < x then 1 else 0
theorem isNaN_any (x : Int) (w : World) : Calls Tryz.prog 62 #[.int .i64 x] w fun e w' => e = .returned (.bool false) ∧ w = w' := by
  go_enter Tryz.func62, Tryz.ntmps62
  go_wp2
  go_ret
  exact ⟨ret_b (by simp), rfl⟩
theorem cmp_any (x y : Int) (w : World) : Calls Tryz.prog 32 #[.int .i64 x, .int .i64 y] w fun e w' => e = .returned (.int .i64 (cmpI x y)) ∧ w = w' := by
  go_enter Tryz.func32, Tryz.ntmps32
  go_wp2_with (go_at_call 62; refine (isNaN_any _ _).mono ?_; rintro e w' ⟨rfl, rfl⟩)
  all_goals (go_ret; refine ⟨ret_i ?_, rfl⟩; simp only [cmpI]; split <;> (try split) <;> omega)
def vtxB (n v : Int) : Bool := decide (0 ≤ v) && decide (v < n)
theorem vtxB_iff (n v : Int) : vtxB n v = true ↔ 0 ≤ v ∧ v < n := by simp [vtxB]
theorem vertex_any (n v : Int) (w : World) : Calls Tryz.prog 141 #[.int .i64 n, .int .i64 v] w fun e w' => e = .returned (.bool (vtxB n v)) ∧ w = w' := by
  by_cases h : 0 ≤ v
  · go_enter Tryz.func141, Tryz.ntmps141
    go_wp2
    go_ret
    exact ⟨ret_b (by simp [vtxB, h]), rfl⟩
  · go_enter Tryz.func141, Tryz.ntmps141
    go_wp2
    go_ret
    exact ⟨ret_b (by simp [vtxB]; omega), rfl⟩
def orI (x y : Int) : Int := if x ≠ 0 then x else y
theorem or_any (x y : Int) (h : Nat) (c : Nat) (w : World) (h0 : w.cell? ⟨h, 0, none⟩ = some (.int .i64 x)) (h1 : w.cell? ⟨h, 1, none⟩ = some (.int .i64 y)) :
    Calls Tryz.prog 168 #[.slice (some ⟨h, 0, none⟩) 2 c] w fun e w' => e = .returned (.int .i64 (orI x y)) ∧ w = w' := by
  go_enter Tryz.func168, Tryz.ntmps168
  go_wp2
  by_cases hx : x = 0
  · have e0 : (x != 0) = false := by simp [hx]
    by_cases hy : y = 0
    · have e1 : (y != 0) = false := by simp [hy]
      have HX := Lib.hid hx
      have HY := Lib.hid hy
      clear hx hy
      refine wp_loop_rounds 3 ?_
      rw [rounds_succ]
      go_wp2
      rw [rounds_succ]
      go_wp2
      rw [rounds_succ]
      go_wp2
      go_ret
      exact ⟨ret_i (by simp [orI, HX.out, HY.out]), rfl⟩
    · have e1 : (y != 0) = true := by simp [hy]
      have HX := Lib.hid hx
      have HY := Lib.hid hy
      clear hx hy
      refine wp_loop_rounds 2 ?_
      rw [rounds_succ]
      go_wp2
      rw [rounds_succ]
      go_wp2
      go_ret
      exact ⟨ret_i (by simp [orI, HX.out]), rfl⟩
  · have e0 : (x != 0) = true := by simp [hx]
    have HX := Lib.hid hx
    clear hx
    refine wp_loop_rounds 1 ?_
    rw [rounds_succ]
    go_wp2
    go_ret
    exact ⟨ret_i (by simp [orI, HX.out]), rfl⟩

theorem cell_lit {w : World} {us : Array Value} {e : TypeId} {h k : Nat} (hh : w.heap.size = h) : (w.alloc (.cells us e)).cell? ⟨h, k, none⟩ = us[k]? := by
  subst hh; exact cell_of_row (w.alloc (.cells us e)) w.heap.size k us e (0, 0) (heap_alloc_new w _)
theorem cell_litd {w : World} {us : Array Value} {e : TypeId} {h k : Nat} (hh : w.heap.size = h) : (w.alloc (.cells us e)).drew.cell? ⟨h, k, none⟩ = us[k]? := cell_lit hh
theorem or_lit (x y : Int) (w : World) (h : Nat) (hh : w.heap.size = h) : Calls Tryz.prog 168 #[.slice (some ⟨h, 0, none⟩) 2 2] (w.alloc (.cells #[.int .i64 x, .int .i64 y] 3)).drew fun e w' => e = .returned (.int .i64 (orI x y)) ∧ (w.alloc (.cells #[.int .i64 x, .int .i64 y] 3)).drew = w' :=
  or_any x y h 2 _ (cell_litd hh) (cell_litd hh)
/-- One pair against another one. -/
def cmpP (a b c d : Int) : Int := orI (cmpI a c) (cmpI b d)
theorem compare_any (a b c d : Int) (w : World) : Calls Tryz.prog 142 #[.agg #[.int .i64 a, .int .i64 b], .agg #[.int .i64 c, .int .i64 d]] w fun e w' => e = .returned (.int .i64 (cmpP a b c d)) ∧ Below w.heap.size w w' := by
  obtain ⟨W, hW⟩ : ∃ W, W = (w.alloc (.cells #[.int .i64 a, .int .i64 b] 191)).alloc (.cells #[.int .i64 c, .int .i64 d] 191) := ⟨_, rfl⟩
  have hb : Below w.heap.size w W := by rw [hW]; exact (below_alloc w _).alloc (by simp) _
  have hs : W.heap.size = w.heap.size + 1 + 1 := by rw [hW]; simp
  have c0 : W.cell? ⟨w.heap.size, 0, none⟩ = some (.int .i64 a) := by rw [hW]; exact (World.cell?_alloc_lt _ _ _ (by simp)).trans (cell_lit rfl)
  have c1 : W.cell? ⟨w.heap.size, 1, none⟩ = some (.int .i64 b) := by rw [hW]; exact (World.cell?_alloc_lt _ _ _ (by simp)).trans (cell_lit rfl)
  have c2 : W.cell? ⟨w.heap.size + 1, 0, none⟩ = some (.int .i64 c) := by rw [hW]; exact cell_lit (by simp)
  have c3 : W.cell? ⟨w.heap.size + 1, 1, none⟩ = some (.int .i64 d) := by rw [hW]; exact cell_lit (by simp)
  have HS := Lib.hid hs
  have HB := Lib.hid hb
  have HW := Lib.hid hW
  clear hs hb hW
  go_enter Tryz.func142, Tryz.ntmps142
  go_wp2
  rw [← HW.out]
  clear HW
  refine wp_region_still_tail 10 (by kernel_rfl) (by kernel_rfl) ?_
  change wpStill _ _ W.drew _ _ _
  simp only [List.take_succ_cons, List.take_zero, List.drop_succ_cons, List.drop_zero]
  repeat still_step
  still_call ((cmp_any a c _).mono fun _ _ h => ⟨h.1, h.2.symm⟩)
  repeat still_step
  still_call ((cmp_any b d _).mono fun _ _ h => ⟨h.1, h.2.symm⟩)
  repeat still_step
  refine wpStill_nil ?_
  change wpList _ _ _ _ _ W.drew
  go_wp2_with (go_at_call 168; refine (or_lit (cmpI a c) (cmpI b d) _ _ (by simp)).mono ?_; rintro e w' ⟨rfl, rfl⟩)
  go_ret
  exact ⟨rfl, (HB.out.trans ((below_alloc W _).mono (by rw [HS.out]; omega))).drew⟩
end Go.Proofs.YtjfggodnfoknfaaGreatDoor

