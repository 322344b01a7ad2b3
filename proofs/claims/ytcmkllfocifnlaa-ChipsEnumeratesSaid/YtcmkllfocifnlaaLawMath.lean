/- Plain law: what the laws of layer 17 say of lists of ints. -/
import Derived.Test.YtcmkllfocifnlaaRefC
namespace Go.Proofs.Ytcmkllfocifnlaa

theorem checkE_mk {xs : List Int} (h1 : 1 ≤ xs.length) (h2 : xs.length ≤ 12) (h3 : xs.all InB = true) : checkE xs xs.length = 0 := by
  have : ¬ ((xs.length : Int) < 1 ∨ 12 < (xs.length : Int)) := by omega
  simp [checkE, this, h3]
theorem own2_mk {xs ys : List Int} (h1 : xs.length = ys.length) (h2 : 1 ≤ xs.length) (h3 : xs.length ≤ 12) (h4 : xs.all InB = true) (h5 : ys.all InB = true) : ownE [xs, ys] = 0 := by
  rw [ownE_two, checkE_mk h2 h3 h4, checkE_mk (by omega) (by omega) h5]; simp [h1]
theorem eachL_ok {F : Int → Int → Int} {xs ys : List Int} (h : ownE [xs, ys] = 0) (hF : (List.zipWith F xs ys).all InB = true) : eachL F xs ys = (List.zipWith F xs ys, 0) := by simp [eachL, h, hF]
def SmallB (z : Int) : Bool := decide (-60 ≤ z) && decide (z ≤ 60)
theorem small_iff (z : Int) : SmallB z = true ↔ -60 ≤ z ∧ z ≤ 60 := by simp [SmallB]
/-- Numbers of a magnitude. -/
def Mag (m : Int) (xs : List Int) : Prop := ∀ z ∈ xs, -m ≤ z ∧ z ≤ m
theorem mag_of_small {xs : List Int} (h : xs.all (fun z => decide (-60 ≤ z) && decide (z ≤ 60)) = true) : Mag 60 xs := fun z hz => by
  have := List.all_eq_true.1 h z hz; simpa using this
theorem inB_of_mag {m : Int} {xs : List Int} (h : Mag m xs) (hm : m ≤ 1048576) : xs.all InB = true := List.all_eq_true.2 fun z hz => by have := h z hz; rw [inB_iff]; omega
theorem mem_zipWith {F : Int → Int → Int} {xs ys : List Int} {z : Int} (h : z ∈ List.zipWith F xs ys) : ∃ x y, x ∈ xs ∧ y ∈ ys ∧ z = F x y := by
  induction xs generalizing ys with
  | nil => simp at h
  | cons x r ih =>
    cases ys with
    | nil => simp at h
    | cons y s =>
      rw [List.zipWith_cons_cons] at h
      rcases List.mem_cons.1 h with rfl | h
      · exact ⟨x, y, List.mem_cons_self .., List.mem_cons_self .., rfl⟩
      · obtain ⟨a, b, h1, h2, h3⟩ := ih h
        exact ⟨a, b, List.mem_cons_of_mem _ h1, List.mem_cons_of_mem _ h2, h3⟩
theorem mag_add {m n : Int} {xs ys : List Int} (h : Mag m xs) (k : Mag n ys) : Mag (m + n) (List.zipWith (fun x y => x + y) xs ys) := fun z hz => by
  obtain ⟨x, y, hx, hy, rfl⟩ := mem_zipWith hz; have := h x hx; have := k y hy; omega
theorem mag_sub {m n : Int} {xs ys : List Int} (h : Mag m xs) (k : Mag n ys) : Mag (m + n) (List.zipWith (fun x y => x - y) xs ys) := fun z hz => by
  obtain ⟨x, y, hx, hy, rfl⟩ := mem_zipWith hz; have := h x hx; have := k y hy; omega
theorem mag_min {m : Int} {xs ys : List Int} (h : Mag m xs) (k : Mag m ys) : Mag m (List.zipWith (fun x y => min x y) xs ys) := fun z hz => by
  obtain ⟨x, y, hx, hy, rfl⟩ := mem_zipWith hz; have := h x hx; have := k y hy; omega
theorem mag_max {m : Int} {xs ys : List Int} (h : Mag m xs) (k : Mag m ys) : Mag m (List.zipWith (fun x y => max x y) xs ys) := fun z hz => by
  obtain ⟨x, y, hx, hy, rfl⟩ := mem_zipWith hz; have := h x hx; have := k y hy; omega
/-- Lists by their places. -/
theorem zip_ext {F G : Int → Int → Int} {xs ys : List Int} (h : ∀ x ∈ xs, ∀ y ∈ ys, F x y = G x y) : List.zipWith F xs ys = List.zipWith G xs ys := by
  induction xs generalizing ys with
  | nil => simp
  | cons x r ih =>
    cases ys with
    | nil => simp
    | cons y s => simp only [List.zipWith_cons_cons]; rw [h x (List.mem_cons_self ..) y (List.mem_cons_self ..), ih fun a ha b hb => h a (List.mem_cons_of_mem _ ha) b (List.mem_cons_of_mem _ hb)]
theorem zip_comm (xs ys : List Int) : List.zipWith (fun x y => x + y) xs ys = List.zipWith (fun x y => x + y) ys xs := by
  induction xs generalizing ys with
  | nil => cases ys <;> rfl
  | cons x r ih => cases ys with
    | nil => rfl
    | cons y s => simp only [List.zipWith_cons_cons, ih]; congr 1; omega
theorem zip_assoc (xs ys zs : List Int) : List.zipWith (fun x y => x + y) (List.zipWith (fun x y => x + y) xs ys) zs = List.zipWith (fun x y => x + y) xs (List.zipWith (fun x y => x + y) ys zs) := by
  induction xs generalizing ys zs with
  | nil => simp
  | cons x r ih => cases ys with
    | nil => simp
    | cons y s => cases zs with
      | nil => simp
      | cons z t => simp only [List.zipWith_cons_cons, ih]; congr 1; omega
theorem zip_back {xs ys : List Int} (h : xs.length = ys.length) : List.zipWith (fun x y => x - y) (List.zipWith (fun x y => x + y) xs ys) ys = xs := by
  induction xs generalizing ys with
  | nil => simp
  | cons x r ih => cases ys with
    | nil => simp at h
    | cons y s => simp only [List.zipWith_cons_cons]; rw [ih (by simpa using h)]; congr 1; omega
theorem zip_neg (xs : List Int) : List.zipWith (fun x y => x + y) xs (xs.map fun x => -x) = List.replicate xs.length 0 := by
  induction xs with
  | nil => rfl
  | cons x r ih => simp only [List.map_cons, List.zipWith_cons_cons, ih, List.length_cons, List.replicate_succ]; congr 1; omega
theorem zip_sum {xs ys : List Int} (h : xs.length = ys.length) : (List.zipWith (fun x y => x + y) xs ys).sum = xs.sum + ys.sum := by
  induction xs generalizing ys with
  | nil => cases ys <;> simp_all
  | cons x r ih => cases ys with
    | nil => simp at h
    | cons y s => simp only [List.zipWith_cons_cons, List.sum_cons]; rw [ih (by simpa using h)]; omega
theorem zip_three (xs : List Int) : List.zipWith (fun x y => x + y) (List.zipWith (fun x y => x + y) xs xs) xs = xs.map fun x => 3 * x := by
  induction xs with
  | nil => rfl
  | cons x r ih => simp only [List.map_cons, List.zipWith_cons_cons, ih]; congr 1; omega
theorem zip_minmax (xs ys : List Int) : List.zipWith (fun x y => x + y) (List.zipWith (fun x y => min x y) xs ys) (List.zipWith (fun x y => max x y) xs ys) = List.zipWith (fun x y => x + y) xs ys := by
  induction xs generalizing ys with
  | nil => simp
  | cons x r ih => cases ys with
    | nil => simp
    | cons y s => simp only [List.zipWith_cons_cons, ih]; congr 1; omega
theorem geL_max1 (xs ys : List Int) : geL (List.zipWith (fun x y => max x y) xs ys) xs = true := by
  induction xs generalizing ys with
  | nil => rfl
  | cons x r ih => cases ys with
    | nil => rfl
    | cons y s => simp only [List.zipWith_cons_cons, geL, ih, Bool.and_true, decide_eq_true_iff]; omega
theorem geL_max2 (xs ys : List Int) : geL (List.zipWith (fun x y => max x y) xs ys) ys = true := by
  induction xs generalizing ys with
  | nil => cases ys <;> rfl
  | cons x r ih => cases ys with
    | nil => rfl
    | cons y s => simp only [List.zipWith_cons_cons, geL, ih, Bool.and_true, decide_eq_true_iff]; omega
theorem geL_min1 (xs ys : List Int) : geL xs (List.zipWith (fun x y => min x y) xs ys) = true := by
  induction xs generalizing ys with
  | nil => rfl
  | cons x r ih => cases ys with
    | nil => rfl
    | cons y s => simp only [List.zipWith_cons_cons, geL, ih, Bool.and_true, decide_eq_true_iff]; omega
theorem geL_min2 (xs ys : List Int) : geL ys (List.zipWith (fun x y => min x y) xs ys) = true := by
  induction xs generalizing ys with
  | nil => cases ys <;> rfl
  | cons x r ih => cases ys with
    | nil => rfl
    | cons y s => simp only [List.zipWith_cons_cons, geL, ih, Bool.and_true, decide_eq_true_iff]; omega
theorem cmpL_cases (xs ys : List Int) : cmpL xs ys = -1 ∨ cmpL xs ys = 0 ∨ cmpL xs ys = 1 := by
  induction xs generalizing ys with
  | nil => cases ys <;> simp [cmpL]
  | cons x r ih => cases ys with
    | nil => simp [cmpL]
    | cons y s =>
      simp only [cmpL]
      split
      · simp
      · split
        · simp
        · exact ih s
theorem cmpL_anti (xs ys : List Int) : cmpL ys xs = -cmpL xs ys := by
  induction xs generalizing ys with
  | nil => cases ys <;> simp [cmpL]
  | cons x r ih => cases ys with
    | nil => simp [cmpL]
    | cons y s =>
      simp only [cmpL]
      by_cases h : x < y
      · have : ¬ y < x := by omega
        simp [h, this]
      · by_cases h' : y < x
        · simp [h, h']
        · simp [h, h', ih]
theorem geL_cmp {xs ys : List Int} (hl : xs.length = ys.length) (h : geL xs ys = true) : 0 ≤ cmpL xs ys := by
  induction xs generalizing ys with
  | nil => cases ys <;> simp_all [cmpL]
  | cons x r ih => cases ys with
    | nil => simp [cmpL]
    | cons y s =>
      simp only [geL, Bool.and_eq_true, decide_eq_true_iff] at h
      have := ih (by simpa using hl) h.2
      simp only [cmpL]
      split
      · omega
      · split <;> omega
theorem max_min_zero (xs : List Int) : List.zipWith (fun x y => min x y) (xs.map fun x => max x 0) (xs.map fun x => max (-x) 0) = List.replicate xs.length 0 := by
  induction xs with
  | nil => rfl
  | cons x r ih => simp only [List.map_cons, List.zipWith_cons_cons, ih, List.length_cons, List.replicate_succ]; congr 1; omega
theorem max_sub (xs : List Int) : List.zipWith (fun x y => x - y) (xs.map fun x => max x 0) (xs.map fun x => max (-x) 0) = xs := by
  induction xs with
  | nil => rfl
  | cons x r ih => simp only [List.map_cons, List.zipWith_cons_cons, ih]; congr 1; omega
theorem supp_zero (i n : Nat) : supp i (List.replicate n 0) = [] := by
  induction n generalizing i with
  | zero => rfl
  | succ n ih => simp only [List.replicate_succ, supp, if_true, ih]
theorem all_rep (n : Nat) : (List.replicate n (0 : Int)).all InB = true := List.all_eq_true.2 fun z hz => by rw [List.eq_of_mem_replicate hz]; rfl
theorem sum_mag {m : Int} {xs : List Int} (h : Mag m xs) : -(m * xs.length) ≤ xs.sum ∧ xs.sum ≤ m * xs.length := by
  induction xs with
  | nil => simp
  | cons x r ih =>
    have h1 := h x (List.mem_cons_self ..)
    have h2 := ih fun z hz => h z (List.mem_cons_of_mem _ hz)
    simp only [List.sum_cons, List.length_cons]
    have e : m * ((r.length + 1 : Nat) : Int) = m * (r.length : Int) + m := by push_cast; rw [Int.mul_add, Int.mul_one]
    rw [e]
    generalize m * (r.length : Int) = t at *
    omega
theorem RV.cellAt {w : World} {g n c : Nat} {us : List Value} (h : RV w (.slice (some ⟨g, 0, none⟩) n c) us) {k : Nat} {u : Value} (hk : us[k]? = some u) : w.cell? ⟨g, k, none⟩ = some u := by
  obtain ⟨A, c', e, _, _, h4⟩ := h
  simp only [Value.slice.injEq] at e
  obtain ⟨rfl, _, _⟩ := e
  obtain ⟨ad, e, _, hc⟩ := h4 k (List.getElem?_eq_some_iff.1 hk).1
  obtain rfl := Option.some.inj e
  have : ((⟨g, 0, none⟩ : Addr).add k) = ⟨g, k, none⟩ := by
    unfold Addr.add; split
    · next h => rw [h]
    · simp
  rw [← this]; exact hc.trans hk
end Go.Proofs.Ytcmkllfocifnlaa
