/- What moves along edges, as the code does it: one edge, one vertex, one set at a time. No program in sight.
   Contracts of package chips, the leaves.
   Contracts of package firing: given, Check, bounded, moved, Apply.
   Contracts of package firing: moved.
   Contract of firing.Apply. -/
import Derived.Test.YtjfggodnfoknfaaGreatDoorM04
import Derived.RangeFuncNested
import Derived.Shelf.Abstract
set_option maxRecDepth 100000
set_option maxHeartbeats 16000000
namespace Go.Proofs.YtjfggodnfoknfaaGreatDoor

def addAt (d : List Int) (i : Nat) (x : Int) : List Int := d.set i (d.getD i 0 + x)
theorem addAt_len (d : List Int) (i : Nat) (x : Int) : (addAt d i x).length = d.length := by simp [addAt]
theorem addAt_get {d : List Int} {i : Nat} (x : Int) (hi : i < d.length) (j : Nat) : (addAt d i x).getD j 0 = d.getD j 0 + if i = j then x else 0 := by
  unfold addAt
  rw [List.getD_eq_getElem?_getD, List.getElem?_set]
  by_cases e : i = j
  · subst e; rw [if_pos rfl, if_pos hi, if_pos rfl]; rfl
  · rw [if_neg e, if_neg e, List.getD_eq_getElem?_getD]; simp
def Bd (B : Int) (d : List Int) : Prop := ∀ j, -B ≤ d.getD j 0 ∧ d.getD j 0 ≤ B
theorem Bd.mono {B B' : Int} {d : List Int} (h : Bd B d) (hB : B ≤ B') : Bd B' d := fun j => by have := h j; omega
theorem addAt_bd {B F x : Int} {d : List Int} {i : Nat} (h : Bd B d) (hi : i < d.length) (hx : -F ≤ x ∧ x ≤ F) : Bd (B + F) (addAt d i x) := fun j => by
  rw [addAt_get x hi]
  have := h j
  split <;> omega
theorem mul_abs {x y X Y : Int} (hx : -X ≤ x) (hx' : x ≤ X) (hy : -Y ≤ y) (hy' : y ≤ Y) : -(X * Y) ≤ x * y ∧ x * y ≤ X * Y := by
  have a1 : (X - x) * (Y + y) ≥ 0 := Int.mul_nonneg (by omega) (by omega)
  have a2 : (X + x) * (Y - y) ≥ 0 := Int.mul_nonneg (by omega) (by omega)
  have a3 : (X - x) * (Y - y) ≥ 0 := Int.mul_nonneg (by omega) (by omega)
  have a4 : (X + x) * (Y + y) ≥ 0 := Int.mul_nonneg (by omega) (by omega)
  simp only [Int.sub_mul, Int.add_mul, Int.mul_add, Int.mul_sub] at a1 a2 a3 a4
  generalize x * y = p at *
  generalize X * Y = q at *
  generalize x * Y = r at *
  generalize X * y = s at *
  omega

/-- One edge, by a script. -/
def moveT (s : List Int) (d : List Int) (t : Tri) : List Int :=
  addAt (addAt d t.1.toNat (-(t.2.2 * (s.getD t.1.toNat 0 - s.getD t.2.1.toNat 0)))) t.2.1.toNat (t.2.2 * (s.getD t.1.toNat 0 - s.getD t.2.1.toNat 0))
def moveE (s : List Int) (es : List Tri) (d : List Int) : List Int := es.foldl (moveT s) d
theorem moveT_len (s d : List Int) (t : Tri) : (moveT s d t).length = d.length := by simp [moveT, addAt_len]
theorem moveE_len (s : List Int) (es : List Tri) (d : List Int) : (moveE s es d).length = d.length := by
  induction es generalizing d with
  | nil => rfl
  | cons t r ih => exact (ih _).trans (moveT_len s d t)
theorem moveT_get {s d : List Int} {t : Tri} {n : Nat} (hd : d.length = n) (h : 0 ≤ t.1 ∧ t.1 < n ∧ 0 ≤ t.2.1 ∧ t.2.1 < n) (v : Nat) : (moveT s d t).getD v 0 = d.getD v 0 - lapT1 t (fun u => s.getD u 0) v := by
  unfold moveT
  rw [addAt_get _ (by rw [addAt_len]; omega), addAt_get _ (by omega)]
  unfold lapT1
  dsimp only
  by_cases e : t.1 = t.2.1
  · rw [if_pos e, e]; split <;> omega
  · rw [if_neg e]
    by_cases a : t.1 = v
    · rw [if_pos a, if_pos (by omega), if_neg (by omega), show t.1.toNat = v by omega]; omega
    · rw [if_neg a, if_neg (show ¬ t.1.toNat = v by omega)]
      by_cases b : t.2.1 = v
      · rw [if_pos b, if_pos (by omega), show t.2.1.toNat = v by omega]
        have : t.2.2 * (s.getD t.1.toNat 0 - s.getD v 0) = -(t.2.2 * (s.getD v 0 - s.getD t.1.toNat 0)) := by rw [← Int.mul_neg]; congr 1; omega
        omega
      · rw [if_neg b, if_neg (by omega)]; omega
theorem moveE_get {s : List Int} {es : List Tri} {d : List Int} {n : Nat} (hd : d.length = n) (h : Ends n es) (v : Nat) : (moveE s es d).getD v 0 = d.getD v 0 - lapE es (fun u => s.getD u 0) v := by
  induction es generalizing d with
  | nil => simp [moveE, lapE]
  | cons t r ih =>
    have h1 := ih (d := moveT s d t) (by rw [moveT_len]; exact hd) h.tail
    have h2 := moveT_get (s := s) hd (h t (List.mem_cons_self ..)) v
    show (moveE s r (moveT s d t)).getD v 0 = _
    rw [h1, h2]
    simp only [lapE]; omega
theorem moveE_snoc (s : List Int) (es : List Tri) (t : Tri) (d : List Int) : moveE s (es ++ [t]) d = moveT s (moveE s es d) t := by simp [moveE]
theorem flow_bd {s : List Int} {t : Tri} {S : Int} (hs : Bd S s) (hm : 1 ≤ t.2.2 ∧ t.2.2 ≤ 50) : -(100 * S) ≤ t.2.2 * (s.getD t.1.toNat 0 - s.getD t.2.1.toNat 0) ∧ t.2.2 * (s.getD t.1.toNat 0 - s.getD t.2.1.toNat 0) ≤ 100 * S := by
  have h1 := hs t.1.toNat
  have h2 := hs t.2.1.toNat
  have := mul_abs (x := t.2.2) (y := s.getD t.1.toNat 0 - s.getD t.2.1.toNat 0) (X := 50) (Y := 2 * S) (by omega) (by omega) (by omega) (by omega)
  omega
theorem moveE_bd {s : List Int} {es : List Tri} {d : List Int} {n : Nat} {S B : Int} (hd : d.length = n) (h : Ends n es) (hm : ∀ t ∈ es, 1 ≤ t.2.2 ∧ t.2.2 ≤ 50) (hs : Bd S s) (hb : Bd B d) : Bd (B + es.length * (200 * S)) (moveE s es d) := by
  induction es generalizing d B with
  | nil => simpa [moveE] using hb
  | cons t r ih =>
    have ht := h t (List.mem_cons_self ..)
    have hf := flow_bd hs (hm t (List.mem_cons_self ..)) (t := t)
    have h1 := addAt_bd (F := 100 * S) (x := -(t.2.2 * (s.getD t.1.toNat 0 - s.getD t.2.1.toNat 0))) hb (i := t.1.toNat) (by omega) (by omega)
    have h2 := addAt_bd (F := 100 * S) (x := t.2.2 * (s.getD t.1.toNat 0 - s.getD t.2.1.toNat 0)) h1 (i := t.2.1.toNat) (by rw [addAt_len]; omega) (by omega)
    have h3 := ih (d := moveT s d t) (by rw [moveT_len]; exact hd) h.tail (fun t ht => hm t (List.mem_cons_of_mem _ ht)) h2
    refine Bd.mono h3 ?_
    simp only [List.length_cons]
    push_cast
    rw [Int.add_mul]
    omega

/-- How many edges there can be. -/
theorem asc_len {l : List Int} {lo hi : Int} (h : l.Pairwise (· < ·)) (hb : ∀ x ∈ l, lo ≤ x ∧ x < hi) (hl : lo ≤ hi) : (l.length : Int) ≤ hi - lo := by
  induction l generalizing lo with
  | nil => simp; omega
  | cons x r ih =>
    have hx := hb x (List.mem_cons_self ..)
    have h' := List.pairwise_cons.1 h
    have := ih (lo := x + 1) h'.2 (fun y hy => by have := h'.1 y hy; have := hb y (List.mem_cons_of_mem _ hy); omega) (by omega)
    simp only [List.length_cons]; push_cast; omega
theorem edges_len {n : Nat} {es : List Tri} (h : Edges n es) (hn : n ≤ 12) : es.length ≤ 144 := by
  have := asc_len (l := es.map fun t => t.1 * 12 + t.2.1) (lo := 0) (hi := 144) (by
    rw [List.pairwise_map]
    refine List.Pairwise.imp_of_mem (fun {a b} ha hb hab => ?_) h.ord
    have h1 := h.lo a ha
    have h2 := h.lo b hb
    unfold LexLt at hab
    omega) (fun x hx => by
    obtain ⟨t, ht, rfl⟩ := List.mem_map.1 hx
    have := h.lo t ht
    omega) (by omega)
  simp at this
  omega

/-- The edges from v to others: the other vertex, and how many. -/
def linksL (es : List Tri) (v : Nat) : List (Int × Int) := es.filterMap fun t : Tri => if t.1 ≠ t.2.1 ∧ (t.1 = (v : Int) ∨ t.2.1 = (v : Int)) then some (t.1 + t.2.1 - (v : Int), t.2.2) else none
theorem linksL_cons (t : Tri) (r : List Tri) (v : Nat) : linksL (t :: r) v = if t.1 ≠ t.2.1 ∧ (t.1 = (v : Int) ∨ t.2.1 = (v : Int)) then (t.1 + t.2.1 - (v : Int), t.2.2) :: linksL r v else linksL r v := by
  unfold linksL
  rw [List.filterMap_cons]
  split
  · next h => split at h
              · cases h
              · next h' => rw [if_neg h']
  · next h => split at h
              · next h' => rw [if_pos h']; cases h; rfl
              · cases h
def sumP (p : Nat → Bool) : List (Int × Int) → Int
  | [] => 0
  | x :: r => (if p x.1.toNat = true then x.2 else 0) + sumP p r
theorem sumP_links (p : Nat → Bool) (es : List Tri) (v : Nat) : sumP p (linksL es v) = joinE es p v := by
  induction es with
  | nil => rfl
  | cons t r ih =>
    rw [linksL_cons]
    simp only [joinE, joinT1]
    by_cases h : t.1 ≠ t.2.1 ∧ (t.1 = (v : Int) ∨ t.2.1 = (v : Int))
    · rw [if_pos h]
      simp only [sumP, ih]
      by_cases c : p (t.1 + t.2.1 - v).toNat = true
      · rw [if_pos c, if_pos ⟨h.1, h.2, c⟩]
      · rw [if_neg c, if_neg fun hh => c hh.2.2]
    · rw [if_neg h, ih, if_neg fun hh => h ⟨hh.1, hh.2.1⟩]; omega
theorem sumP_snoc (p : Nat → Bool) (l : List (Int × Int)) (x : Int × Int) : sumP p (l ++ [x]) = sumP p l + if p x.1.toNat = true then x.2 else 0 := by
  induction l with
  | nil => simp [sumP]
  | cons y r ih => simp only [List.cons_append, sumP, ih]; omega
theorem links_mem {n : Nat} {es : List Tri} (h : Edges n es) {v : Nat} (hv : v < n) {x : Int × Int} (hx : x ∈ linksL es v) : 0 ≤ x.1 ∧ x.1 < n ∧ x.1 ≠ v ∧ 1 ≤ x.2 ∧ x.2 ≤ 50 := by
  unfold linksL at hx
  obtain ⟨t, ht, he⟩ := List.mem_filterMap.1 hx
  have h1 := h.lo t ht
  have h2 := h.mult t ht
  split at he
  · next hh =>
    obtain rfl := Option.some.inj he
    simp only
    omega
  · cases he
theorem links_len (es : List Tri) (v : Nat) : (linksL es v).length ≤ es.length := List.length_filterMap_le _ _
/-- One vertex fires k times along some of its edges. -/
def fireI (v : Nat) (k : Int) (l : List (Int × Int)) (d : List Int) : List Int := l.foldl (fun d x => addAt (addAt d v (-(x.2 * k))) x.1.toNat (x.2 * k)) d
theorem fireI_len (v : Nat) (k : Int) (l : List (Int × Int)) (d : List Int) : (fireI v k l d).length = d.length := by
  induction l generalizing d with
  | nil => rfl
  | cons x r ih => exact (ih _).trans (by rw [addAt_len, addAt_len])
theorem fireI_snoc (v : Nat) (k : Int) (l : List (Int × Int)) (x : Int × Int) (d : List Int) : fireI v k (l ++ [x]) d = addAt (addAt (fireI v k l d) v (-(x.2 * k))) x.1.toNat (x.2 * k) := by simp [fireI]
theorem fireI_get {n : Nat} {es : List Tri} {d : List Int} (h : Ends n es) (hd : d.length = n) {v : Nat} (hv : v < n) (k : Int) (x : Nat) :
    (fireI v k (linksL es v) d).getD x 0 = d.getD x 0 - lapE es (fun u => if u = v then k else 0) x := by
  induction es generalizing d with
  | nil => simp [linksL, fireI, lapE]
  | cons t r ih =>
    have ht := h t (List.mem_cons_self ..)
    rw [linksL_cons]
    simp only [lapE]
    by_cases c : t.1 ≠ t.2.1 ∧ (t.1 = (v : Int) ∨ t.2.1 = (v : Int))
    · rw [if_pos c]
      have h1 := ih (d := addAt (addAt d v (-(t.2.2 * k))) (t.1 + t.2.1 - v).toNat (t.2.2 * k)) h.tail (by rw [addAt_len, addAt_len]; exact hd)
      show (fireI v k (linksL r v) (addAt (addAt d v (-(t.2.2 * k))) (t.1 + t.2.1 - v).toNat (t.2.2 * k))).getD x 0 = _
      rw [h1, addAt_get _ (by rw [addAt_len]; omega), addAt_get _ (by omega)]
      unfold lapT1
      dsimp only
      rw [if_neg c.1]
      by_cases a : t.1 = x
      · rw [if_pos a]
        by_cases e : v = x
        · subst e
          rw [if_pos rfl, if_neg (by omega), if_pos rfl, if_neg (by omega), Int.sub_zero]; omega
        · have e2 : t.2.1 = v := by omega
          rw [if_neg e, if_pos (by omega), if_neg (fun h => e h.symm), if_pos (by omega)]
          have : t.2.2 * (0 - k) = -(t.2.2 * k) := by rw [Int.zero_sub, Int.mul_neg]
          omega
      · rw [if_neg a]
        by_cases b : t.2.1 = x
        · rw [if_pos b]
          by_cases e : v = x
          · subst e
            rw [if_pos rfl, if_neg (by omega), if_pos rfl, if_neg (by omega), Int.sub_zero]; omega
          · have e2 : t.1 = v := by omega
            rw [if_neg e, if_pos (by omega), if_neg (fun h => e h.symm), if_pos (by omega)]
            have : t.2.2 * (0 - k) = -(t.2.2 * k) := by rw [Int.zero_sub, Int.mul_neg]
            omega
        · rw [if_neg b, if_neg (by omega), if_neg (by omega)]; omega
    · rw [if_neg c, ih h.tail hd]
      have : lapT1 t (fun u => if u = v then k else 0) x = 0 := by
        unfold lapT1
        dsimp only
        by_cases e : t.1 = t.2.1
        · rw [if_pos e]
        · rw [if_neg e]
          have e1 : t.1.toNat ≠ v := by intro hh; exact c ⟨e, .inl (by omega)⟩
          have e2 : t.2.1.toNat ≠ v := by intro hh; exact c ⟨e, .inr (by omega)⟩
          by_cases a : t.1 = x
          · rw [if_pos a, if_neg (by omega), if_neg e2]; simp
          · rw [if_neg a]
            by_cases b : t.2.1 = x
            · rw [if_pos b, if_neg (by omega), if_neg e1]; simp
            · rw [if_neg b]
      omega
theorem fireI_bd {v : Nat} {k K B : Int} {l : List (Int × Int)} {d : List Int} (hv : v < d.length) (hl : ∀ x ∈ l, x.1.toNat < d.length ∧ 1 ≤ x.2 ∧ x.2 ≤ 50) (hk : -K ≤ k ∧ k ≤ K) (hb : Bd B d) : Bd (B + l.length * (100 * K)) (fireI v k l d) := by
  induction l generalizing d B with
  | nil => simpa [fireI] using hb
  | cons x r ih =>
    have hx := hl x (List.mem_cons_self ..)
    have hm := mul_abs (x := x.2) (y := k) (X := 50) (Y := K) (by omega) (by omega) hk.1 hk.2
    have h1 := addAt_bd (F := 50 * K) (x := -(x.2 * k)) hb hv (by omega)
    have h2 := addAt_bd (F := 50 * K) (x := x.2 * k) h1 (i := x.1.toNat) (by rw [addAt_len]; exact hx.1) (by omega)
    have h3 := ih (d := addAt (addAt d v (-(x.2 * k))) x.1.toNat (x.2 * k)) (by rw [addAt_len, addAt_len]; exact hv) (fun y hy => by rw [addAt_len, addAt_len]; exact hl y (List.mem_cons_of_mem _ hy)) h2
    refine Bd.mono h3 ?_
    simp only [List.length_cons]
    push_cast
    rw [Int.add_mul]
    omega
theorem lapE_add (es : List Tri) (s t : Nat → Int) (v : Nat) : lapE es (fun u => s u + t u) v = lapE es s v + lapE es t v := by
  induction es with
  | nil => rfl
  | cons x r ih =>
    simp only [lapE, ih]
    have : lapT1 x (fun u => s u + t u) v = lapT1 x s v + lapT1 x t v := by
      unfold lapT1
      dsimp only
      repeat' split
      all_goals first | rfl | (rw [← Int.mul_add]; congr 1; omega)
    omega
theorem lapE_congr {n : Nat} {es : List Tri} (h : Ends n es) {s t : Nat → Int} {v : Nat} (hv : v < n) (he : ∀ u, u < n → s u = t u) : lapE es s v = lapE es t v := by
  rw [← lap_edges h, ← lap_edges h]; exact lap_congr hv he
/-- A set fires k times: its vertices below m have done so. -/
def fireS (ins : List Bool) (k : Int) (es : List Tri) : Nat → List Int → List Int
  | 0, d => d
  | m + 1, d => if ins.getD m false = true then fireI m k (linksL es m) (fireS ins k es m d) else fireS ins k es m d
theorem fireS_len (ins : List Bool) (k : Int) (es : List Tri) (m : Nat) (d : List Int) : (fireS ins k es m d).length = d.length := by
  induction m with
  | zero => rfl
  | succ m ih => simp only [fireS]; split
                 · rw [fireI_len, ih]
                 · exact ih
theorem fireS_get {n : Nat} {es : List Tri} {d : List Int} (h : Ends n es) (hd : d.length = n) (ins : List Bool) (k : Int) {m : Nat} (hm : m ≤ n) {x : Nat} (hx : x < n) :
    (fireS ins k es m d).getD x 0 = d.getD x 0 - lapE es (fun u => if u < m ∧ ins.getD u false = true then k else 0) x := by
  induction m with
  | zero =>
    have : lapE es (fun u => if u < 0 ∧ ins.getD u false = true then k else 0) x = lapE es (fun _ => 0) x := lapE_congr h hx fun u _ => by rw [if_neg (by omega)]
    have z : ∀ es : List Tri, lapE es (fun _ => 0) x = 0 := fun es => by
      induction es with
      | nil => rfl
      | cons t r ih => simp only [lapE, ih, lapT1]; split <;> (try split) <;> (try split) <;> simp
    rw [this, z]; simp [fireS]
  | succ m ih =>
    have ih := ih (by omega)
    simp only [fireS]
    by_cases c : ins.getD m false = true
    · rw [if_pos c, fireI_get h (by rw [fireS_len]; exact hd) (by omega), ih]
      have := lapE_add es (fun u => if u < m ∧ ins.getD u false = true then k else 0) (fun u => if u = m then k else 0) x
      have e : lapE es (fun u => if u < m + 1 ∧ ins.getD u false = true then k else 0) x = lapE es (fun u => (if u < m ∧ ins.getD u false = true then k else 0) + if u = m then k else 0) x := lapE_congr h hx fun u _ => by
        by_cases e : u = m
        · subst e; rw [if_pos ⟨by omega, c⟩, if_neg (by omega), if_pos rfl]; omega
        · rw [if_neg e]
          by_cases e2 : u < m ∧ ins.getD u false = true
          · rw [if_pos ⟨by omega, e2.2⟩, if_pos e2]; omega
          · rw [if_neg e2, if_neg fun hh => e2 ⟨by omega, hh.2⟩]; rfl
      rw [e, this]; omega
    · rw [if_neg c, ih]
      congr 1
      exact lapE_congr h hx fun u _ => by
        by_cases e : u = m
        · subst e; rw [if_neg (by omega), if_neg fun hh => c hh.2]
        · by_cases e2 : u < m ∧ ins.getD u false = true
          · rw [if_pos e2, if_pos ⟨by omega, e2.2⟩]
          · rw [if_neg e2, if_neg fun hh => e2 ⟨by omega, hh.2⟩]
theorem fireS_bd {n : Nat} {es : List Tri} {d : List Int} {ins : List Bool} {k K B : Int} (h : Edges n es) (hd : d.length = n) (hn : n ≤ 12) (hK : 0 ≤ K) (hk : -K ≤ k ∧ k ≤ K) (hb : Bd B d) {m : Nat} (hm : m ≤ n) : Bd (B + m * (14400 * K)) (fireS ins k es m d) := by
  induction m with
  | zero => simpa [fireS] using hb
  | succ m ih =>
    have ih := ih (by omega)
    have hl := edges_len h hn
    simp only [fireS]
    push_cast
    rw [Int.add_mul]
    split
    · have := fireI_bd (v := m) (k := k) (K := K) (l := linksL es m) (d := fireS ins k es m d) (by rw [fireS_len]; omega) (fun x hx => by have := links_mem h (by omega) hx; rw [fireS_len]; omega) hk ih
      refine Bd.mono this ?_
      have h2 := links_len es m
      have h3 : (100 * K) * ((linksL es m).length : Int) ≤ (100 * K) * 144 := Int.mul_le_mul_of_nonneg_left (by omega) (by omega)
      rw [Int.mul_comm ((linksL es m).length : Int)]
      omega
    · exact Bd.mono ih (by omega)
end Go.Proofs.YtjfggodnfoknfaaGreatDoor

namespace Go.Proofs.YtjfggodnfoknfaaGreatDoor
open Go.RowKit

def vertE (n : Int) : Int := if n < 1 ∨ 12 < n then 2 else 0
def checkE (zs : List Int) (n : Int) : Int := if n < 1 ∨ 12 < n then 2 else if (zs.length : Int) ≠ n then 8 else if zs.all InB then 0 else 2
theorem within_any (k : Int) (w : World) : Calls Tryz.prog 51 #[.int .i64 k] w fun e w' => e = .returned (.bool (InB k)) ∧ w = w' := by
  go_enter Tryz.func51, Tryz.ntmps51
  go_wp2
  all_goals (go_ret; exact ⟨by simp [InB, *]; try omega, rfl⟩)
theorem vertices_any (n : Int) (w : World) : Calls Tryz.prog 50 #[.int .i64 n] w fun e w' => e = .returned (.int .i64 (vertE n)) ∧ w = w' := by
  by_cases h1 : n < 1
  · go_enter Tryz.func50, Tryz.ntmps50
    go_wp2
    go_ret
    exact ⟨by simp [vertE, h1], rfl⟩
  · by_cases h2 : n > 12
    · go_enter Tryz.func50, Tryz.ntmps50
      go_wp2
      go_ret
      exact ⟨by simp [vertE, h2], rfl⟩
    · go_enter Tryz.func50, Tryz.ntmps50
      go_wp2
      go_ret
      exact ⟨by simp [vertE, h1, h2], rfl⟩

theorem check_any (v : Value) (zs : List Int) (n : Int) (w : World) (hv : RI w v zs) :
    Calls Tryz.prog 26 #[v, .int .i64 n] w fun e w' => e = .returned (.int .i64 (checkE zs n)) ∧ w = w' := by
  obtain ⟨A, c, rfl, hlc, hc, hcell⟩ := hv.open_
  by_cases h1 : n < 1 ∨ 12 < n
  · have e1 : (vertE n != 0) = true := by simp [vertE, h1]
    have H1 := Lib.hid h1
    clear h1
    go_enter Tryz.func26, Tryz.ntmps26
    go_wp2_with (go_at_call 50; refine (vertices_any _ _).mono ?_; rintro e w' ⟨rfl, rfl⟩)
    go_ret
    exact ⟨by simp [vertE, checkE, H1.out], rfl⟩
  · have e1 : vertE n = 0 := by simp [vertE, h1]
    by_cases h2 : (zs.length : Int) = n
    · have e2 : ((zs.length : Int) != n) = false := by simp [h2]
      have H1 := Lib.hid h1
      have H2 := Lib.hid h2
      have HC := Lib.hid hcell
      clear h1 h2 hcell
      go_enter Tryz.func26, Tryz.ntmps26
      go_wp2_with (go_at_call 50; refine (vertices_any _ _).mono ?_; rintro e w' ⟨rfl, rfl⟩)
      go_loop [19] (fun i => ∃ k : Nat, k ≤ zs.length ∧ i = .int .i64 k ∧ Hid ((zs.drop k).all InB = zs.all InB)) (fun i => zs.length - (intOf i).toNat)
      case atStart => exact ⟨0, Nat.zero_le _, rfl, rfl⟩
      case round =>
        obtain ⟨k, hk, rfl, hr⟩ := hrel
        by_cases hlt : k < zs.length
        · obtain ⟨ad, z, rfl, _, hz, hcl⟩ := HC.out k hlt
          clear HC hv
          have hd := Lib.hid (drop_at hz)
          cases hb : InB z
          · go_wp2_with (go_at_call 51; refine (within_any _ _).mono ?_; rintro e w' ⟨rfl, rfl⟩)
            go_ret
            refine ⟨?_, rfl⟩
            have := hr.out; rw [hd.out] at this
            simp only [checkE, if_neg H1.out, H2.out, ← this]
            simp [hb]
          · go_wp2_with (go_at_call 51; refine (within_any _ _).mono ?_; rintro e w' ⟨rfl, rfl⟩)
            go_round
            case rel => exact ⟨k + 1, by omega, by go_num, by have := hr.out; rw [hd.out] at this; simpa [Hid, hb] using this⟩
            case measure => simp [intOf]; omega
        · go_wp2
          go_ret
          refine ⟨?_, rfl⟩
          have := hr.out; rw [List.drop_of_length_le (by omega)] at this
          simp only [checkE, if_neg H1.out, H2.out, ← this]
          simp
    · have e2 : ((zs.length : Int) != n) = true := by simp [h2]
      have H1 := Lib.hid h1
      have H2 := Lib.hid h2
      clear h1 h2
      go_enter Tryz.func26, Tryz.ntmps26
      go_wp2_with (go_at_call 50; refine (vertices_any _ _).mono ?_; rintro e w' ⟨rfl, rfl⟩)
      go_ret
      exact ⟨by simp [checkE, H1.out, H2.out], rfl⟩
end Go.Proofs.YtjfggodnfoknfaaGreatDoor

namespace Go.Proofs.YtjfggodnfoknfaaGreatDoor
open Go.RowKit Go.Shelf

def fGiven (n : Int) (es : List Tri) (zs : List Int) : Int := if gcheckE n es ≠ 0 then gcheckE n es else checkE zs n
theorem fGiven_any (g d : Value) (n : Int) (es : List Tri) (zs : List Int) (w : World) (hg : GV w g n es) (hd : RI w d zs) :
    Calls Tryz.prog 65 #[g, d] w fun e w' => e = .returned (.int .i64 (fGiven n es zs)) ∧ Below w.heap.size w w' := by
  obtain ⟨A, c, rfl, hlc, hc, -⟩ := hg.open_
  obtain ⟨A2, c2, rfl, -, -, -⟩ := hd.open_
  have HG := Lib.hid (hg.below (below_alloc w (.cells #[.int .i64 n, .slice A es.length c] 24)))
  have HD := Lib.hid (hd.below (below_alloc w (.cells #[.int .i64 n, .slice A es.length c] 24)))
  clear hg hd
  by_cases h0 : gcheckE n es = 0
  · have H0 := Lib.hid h0
    clear h0
    go_enter Tryz.func65, Tryz.ntmps65
    go_wp2_with fail
    refine (gCheck_any _ n es _ HG.out).mono ?_
    rw [H0.out]
    rintro e w1 ⟨rfl, hb⟩
    have c0 : w1.cell? ⟨w.heap.size, 0, none⟩ = some (.int .i64 n) := (hb.cell (p := ⟨w.heap.size, 0, none⟩) (by simp)).trans (cell_lit rfl)
    have HD1 := Lib.hid (HD.out.below hb)
    have HB := Lib.hid ((below_alloc w (.cells #[.int .i64 n, .slice A es.length c] 24)).trans (hb.mono (by simp)))
    clear hb
    go_wp2_with (go_at_call 26; refine (check_any _ zs _ _ HD1.out).mono ?_; rintro e w' ⟨rfl, rfl⟩)
    go_ret
    exact ⟨ret_i (by simp [fGiven, H0.out]), HB.out⟩
  · have hne : (gcheckE n es != 0) = true := by simp [h0]
    have H0 := Lib.hid h0
    clear h0
    go_enter Tryz.func65, Tryz.ntmps65
    go_wp2_with (go_at_call 104; refine (gCheck_any _ n es _ HG.out).mono ?_; rintro e w1 ⟨rfl, hb1⟩)
    go_ret
    exact ⟨ret_i (by simp [fGiven, H0.out]), (below_alloc w _).trans (hb1.mono (by simp))⟩
theorem fCheck_any (g d : Value) (n : Int) (es : List Tri) (zs : List Int) (w : World) (hg : GV w g n es) (hd : RI w d zs) :
    Calls Tryz.prog 66 #[g, d] w fun e w' => e = .returned (.int .i64 (fGiven n es zs)) ∧ Below w.heap.size w w' := by
  obtain ⟨A, c, rfl, hlc, hc, -⟩ := hg.open_
  obtain ⟨A2, c2, rfl, -, -, -⟩ := hd.open_
  have HG := Lib.hid (hg.below (below_alloc w (.cells #[.int .i64 n, .slice A es.length c] 24)))
  have HD := Lib.hid (hd.below (below_alloc w (.cells #[.int .i64 n, .slice A es.length c] 24)))
  clear hg hd
  go_enter Tryz.func66, Tryz.ntmps66
  go_wp2_with (go_at_call 65; refine (fGiven_any _ _ n es zs _ HG.out HD.out).mono ?_; rintro e w1 ⟨rfl, hb1⟩)
  go_ret
  exact ⟨rfl, (below_alloc w _).trans (hb1.mono (by simp))⟩
theorem big_clo (w : World) : CloB Tryz.prog w (.func (.func 106) #[] #[]) (fun _ => True) (fun x => !InB x) :=
  ⟨_, _, rfl, enters_of Tryz.func106 (by kernel_rfl) rfl, fun W _ x _ => by
    show Calls _ _ #[.int .i64 x] _ _
    by_cases h : x < -1048576
    · go_enter Tryz.func106, Tryz.ntmps106
      go_wp2
      go_ret
      exact ⟨ret_b (by simp [InB]; omega), rfl⟩
    · go_enter Tryz.func106, Tryz.ntmps106
      go_wp2
      go_ret
      refine ⟨ret_b ?_, rfl⟩
      have : decide (-1048576 ≤ x) = true := by simp; omega
      simp only [InB, this, Bool.true_and]
      by_cases h2 : x ≤ 1048576
      · simp [h2]; try omega
      · simp [h2]; try omega⟩
def bndL (zs : List Int) : List Int × Int := if zs.all InB then (zs, 0) else ([], 11)
theorem any_not_all (zs : List Int) : zs.any (fun x => !InB x) = !zs.all InB := by
  induction zs with
  | nil => rfl
  | cons z r ih => simp only [List.any_cons, List.all_cons, ih]; cases InB z <;> simp
theorem bounded_any (v : Value) (zs : List Int) (w : World) (B : Nat) (hv : OI w B v zs) :
    Calls Tryz.prog 67 #[v] w fun e w' => ∃ u, e = .returned (.tuple #[u, .int .i64 (bndL zs).2]) ∧ OI w B u (bndL zs).1 ∧ w = w' := by
  have HC := Lib.hid (ContainsD_any v _ zs _ _ w hv.ri (big_clo w) (fun _ _ => trivial))
  have HV := Lib.hid hv
  obtain ⟨A, c, rfl, -, -, -⟩ := hv.ri.open_
  rw [any_not_all] at HC
  clear hv
  cases h : zs.all InB
  · rw [h] at HC
    go_enter Tryz.func67, Tryz.ntmps67
    go_wp2_with (refine HC.out.mono ?_; rintro e w' ⟨rfl, rfl⟩)
    go_ret2
    exact ⟨.slice none 0 0, by simp only [bndL, h]; rfl, by simp only [bndL, h]; exact OI.nil_ _ _, rfl⟩
  · rw [h] at HC
    go_enter Tryz.func67, Tryz.ntmps67
    go_wp2_with (refine HC.out.mono ?_; rintro e w' ⟨rfl, rfl⟩)
    go_ret2
    exact ⟨_, by simp only [bndL, h]; rfl, by simp only [bndL, h]; exact HV.out, rfl⟩
end Go.Proofs.YtjfggodnfoknfaaGreatDoor

namespace Go.Proofs.YtjfggodnfoknfaaGreatDoor
open Go.RowKit Go.Shelf

theorem moveT_nat (s d : List Int) (x y : Nat) (m : Int) : moveT s d (x, y, m) = addAt (addAt d x (-(m * (s.getD x 0 - s.getD y 0)))) y (m * (s.getD x 0 - s.getD y 0)) := by simp [moveT]
theorem along_any (x y : Nat) (m : Int) (hs ho B g cap n : Nat) (vs : Value) (zs os : List Int) (w : World) (hbs : BL w hs 42 [vs]) (hbo : BL w ho 26 [.slice (some ⟨g, 0, none⟩) n cap])
    (hrs : RI w vs zs) (hro : OI w B (.slice (some ⟨g, 0, none⟩) n cap) os) (hx : x < zs.length) (hy : y < zs.length) (hl : os.length = zs.length) (hm : 1 ≤ m ∧ m ≤ 50) (hS : Bd 1048576 zs) (hO : Bd 100000000000 os) :
    Calls Tryz.prog 107 #[.agg #[.int .i64 x, .int .i64 y, .int .i64 m], .pointer (some ⟨hs, 0, none⟩), .pointer (some ⟨ho, 0, none⟩)] w fun e w' => (∃ v, e = .returned v) ∧ OI w' B (.slice (some ⟨g, 0, none⟩) n cap) (moveT zs os (x, y, m)) ∧ w.grownBy w' (some g) := by
  obtain ⟨A, c, rfl, hlc, hc, hcell⟩ := hrs.open_
  obtain ⟨ad, a, rfl, hab, hza, hca⟩ := hcell x hx
  obtain ⟨ad', b, e, _, hzb, hcb⟩ := hcell y hy
  obtain rfl := Option.some.inj e
  have ea : zs.getD x 0 = a := by rw [List.getD_eq_getElem?_getD, hza.out]; rfl
  have eb : zs.getD y 0 = b := by rw [List.getD_eq_getElem?_getD, hzb.out]; rfl
  have hfl := flow_bd (t := ((x : Int), (y : Int), m)) hS hm
  have h1 := hS x
  have h2 := hS y
  simp only [Int.toNat_natCast] at hfl
  rw [ea] at h1
  rw [eb] at h2
  rw [ea, eb] at hfl
  obtain ⟨f, hf⟩ : ∃ f, f = m * (a - b) := ⟨_, rfl⟩
  rw [← hf] at hfl
  have hE : Hid (moveT zs os (x, y, m) = addAt (addAt os x (-f)) y f) := by show _ = _; rw [moveT_nat, ea, eb, ← hf]
  obtain ⟨W, hW⟩ : ∃ W, W = w.alloc (.cells #[.int .i64 x, .int .i64 y, .int .i64 m] 54) := ⟨_, rfl⟩
  have hbW : Below w.heap.size w W := by rw [hW]; exact below_alloc w _
  have hWs : W.heap.size = w.heap.size + 1 := by rw [hW]; simp
  have d0 : W.cell? ⟨w.heap.size, 0, none⟩ = some (.int .i64 x) := by rw [hW]; exact cell_lit rfl
  have d1 : W.cell? ⟨w.heap.size, 1, none⟩ = some (.int .i64 y) := by rw [hW]; exact cell_lit rfl
  have d2 : W.cell? ⟨w.heap.size, 2, none⟩ = some (.int .i64 m) := by rw [hW]; exact cell_lit rfl
  have b0 : W.cell? ⟨hs, 0, none⟩ = some (.slice (some ad) zs.length c) := (hbs.bel hbW).cell 0
  have b1 : W.cell? ⟨ho, 0, none⟩ = some (.slice (some ⟨g, 0, none⟩) n cap) := (hbo.bel hbW).cell 0
  have ca : W.cell? (ad.add x) = some (.int .i64 a) := (hbW.cell (by rw [block_of_add]; exact hab)).trans hca
  have cb : W.cell? (ad.add y) = some (.int .i64 b) := (hbW.cell (by rw [block_of_add]; exact hab)).trans hcb
  have hoW := hro.below hbW
  have hog : ho ≠ g := by
    intro e; subst e
    rcases hro.1.2 with ⟨h, _⟩ | ⟨g', cap', cur, h, _, hh, _⟩
    · cases h
    · simp only [Value.slice.injEq, Option.some.injEq, Addr.mk.injEq, and_true] at h
      obtain ⟨rfl, _⟩ := h
      unfold BL at hbo
      rw [hbo] at hh
      simp only [Option.some.injEq, Obj.cells.injEq] at hh
      exact absurd hh.2.1 (by decide)
  have hgs : g < w.heap.size := (hro.1.lt g rfl).2
  have HOW := Lib.hid hoW
  have HO := Lib.hid hO
  have HL := Lib.hid hl
  have HN : Hid (n = zs.length) := by have := (OI.at' hro (k := x) (by omega)).1; rw [hl] at this; exact this
  have hGA : Hid (w.grownBy W (some g)) := by rw [hW]; exact World.grownBy_alloc w _ _
  have HW : Hid (W = w.alloc (.cells #[.int .i64 x, .int .i64 y, .int .i64 m] 54)) := hW
  have w1 : IntKind.i64.wrap (a - b) = a - b := IntWalk.i64_in _ (by omega)
  have w2' : IntKind.i64.wrap (m * (a - b)) = f := by rw [← hf]; exact IntWalk.i64_in _ (by omega)
  clear hW hf hcell hza hzb hca hcb hro hrs hbs hbo hbW hoW hS hO ea eb hl
  go_enter Tryz.func107, Tryz.ntmps107
  go_wp2
  rw [← HW.out]
  go_quiet (fail)
  obtain ⟨V, hV⟩ : ∃ V, V = W.drewN nq := ⟨_, rfl⟩
  rw [← hV]
  have g1 : V.cell? ⟨w.heap.size, 1, none⟩ = some (.int .i64 y) := by rw [hV]; exact d1
  have g0 : V.cell? ⟨w.heap.size, 0, none⟩ = some (.int .i64 x) := by rw [hV]; exact d0
  have gb : V.cell? ⟨ho, 0, none⟩ = some (.slice (some ⟨g, 0, none⟩) n cap) := by rw [hV]; exact b1
  have hoV : OI V B (.slice (some ⟨g, 0, none⟩) n cap) os := by rw [hV]; exact HOW.out
  have hVg : w.grownBy V (some g) := by rw [hV]; exact ⟨hGA.out.os, hGA.out.tape, hGA.out.output, hGA.out.size, hGA.out.block⟩
  clear hV d0 d1 d2 b0 b1 ca cb w1 w2' HW HOW hGA
  have hlen := HL.out
  obtain ⟨hn, hBg, o0, of0, ost⟩ := OI.at' hoV (k := x) (by omega)
  have hOx := HO.out x
  obtain ⟨w2, hw2⟩ : ∃ w2, w2 = V.setCell ⟨g, x, none⟩ (.int .i64 (os.getD x 0 - f)) := ⟨_, rfl⟩
  have ho2 : OI w2 B (.slice (some ⟨g, 0, none⟩) n cap) (addAt os x (-f)) := by rw [hw2]; exact (ost _).1
  have hg2 : V.grownBy w2 (some g) := by rw [hw2]; exact (ost (os.getD x 0 - f)).2
  have hadd := addAt_bd (F := 1000000000) HO.out (i := x) (x := -f) (by omega) (by omega)
  have hOy := hadd y
  obtain ⟨-, -, p0, pf0, pst⟩ := OI.at' ho2 (k := y) (by rw [addAt_len]; omega)
  have e0 : w2.cell? ⟨ho, 0, none⟩ = some (.slice (some ⟨g, 0, none⟩) n cap) := hg2.cell gb (by simp [hog])
  have e1 : w2.cell? ⟨w.heap.size, 1, none⟩ = some (.int .i64 y) := hg2.cell g1 (by simp; omega)
  have HR : Hid (OI (w2.setCell ⟨g, y, none⟩ (.int .i64 ((addAt os x (-f)).getD y 0 + f))) B (.slice (some ⟨g, 0, none⟩) n cap) (moveT zs os (x, y, m))) := by rw [hE.out]; exact (pst _).1
  have HG : Hid (w.grownBy (w2.setCell ⟨g, y, none⟩ (.int .i64 ((addAt os x (-f)).getD y 0 + f))) (some g)) :=
    (hVg.trans hg2).trans (pst ((addAt os x (-f)).getD y 0 + f)).2
  have HW2 : Hid (w2 = V.setCell ⟨g, x, none⟩ (.int .i64 (os.getD x 0 - f))) := hw2
  have hxn : x < n := by omega
  have hyn : y < n := by omega
  generalize (addAt os x (-f)).getD y 0 = oy at *
  generalize os.getD x 0 = ox at *
  clear hw2 ost pst ho2 hg2 hadd hlen hoV hVg
  rw [HW2.out] at e0 e1 p0 pf0 HR HG
  clear HW2 w2
  go_wp2
  go_end0
  exact ⟨⟨_, rfl⟩, HR.out, HG.out⟩

theorem getD_tri {es : List Tri} {k : Nat} {t : Tri} (h : Hid (es[k]? = some t)) : t ∈ es := List.mem_of_getElem? h.out
theorem moved_any (g d s : Value) (n : Nat) (es : List Tri) (ds zs : List Int) (w : World) (hg : GV w g n es) (hd : RI w d ds) (hs : RI w s zs) (hn : n ≤ 12) (hn1 : 1 ≤ n) (he : Edges n es) (hdl : ds.length = n) (hzl : zs.length = n) (hdb : Bd 1048576 ds) (hzb : Bd 1048576 zs) :
    Calls Tryz.prog 68 #[g, d, s] w fun e w' => ∃ v, e = .returned v ∧ OI w' w.heap.size v (moveE zs es ds) ∧ Below w.heap.size w w' := by
  obtain ⟨A, c, rfl, hlc, hc, hcell⟩ := hg.open_
  obtain ⟨A2, c2, rfl, -, -, -⟩ := hd.open_
  obtain ⟨A3, c3, rfl, -, -, -⟩ := hs.open_
  have hW0 : Below w.heap.size w ((w.alloc (.cells #[.int .i64 n, .slice A es.length c] 24)).alloc (.cells #[.slice A3 zs.length c3] 42)) := (below_alloc w _).alloc (by simp) _
  have HD := Lib.hid (hd.below hW0)
  have HS := Lib.hid hs
  have HC := Lib.hid hcell
  have HE := Lib.hid he
  have HDB := Lib.hid hdb
  have HZB := Lib.hid hzb
  have HDL := Lib.hid hdl
  have HZL := Lib.hid hzl
  have HGB : Hid (BL ((w.alloc (.cells #[.int .i64 n, .slice A es.length c] 24)).alloc (.cells #[.slice A3 zs.length c3] 42)) (w.heap.size) 24 [.int .i64 n, .slice A es.length c]) := (BL.new' w _ _).alloc _
  have HSB : Hid (BL ((w.alloc (.cells #[.int .i64 n, .slice A es.length c] 24)).alloc (.cells #[.slice A3 zs.length c3] 42)) (w.heap.size + 1) 42 [.slice A3 zs.length c3]) := by
    have := BL.new' (w.alloc (.cells #[.int .i64 n, .slice A es.length c] 24)) #[.slice A3 zs.length c3] 42
    rwa [World.size_alloc] at this
  have hel := edges_len he hn
  clear hg hd hs hcell he hdb hzb hdl hzl
  go_enter Tryz.func68, Tryz.ntmps68
  go_wp2_with fail
  refine (CloneD_any _ ds _ HD.out (by have := HDL.out; omega)).mono ?_
  rintro e w1 ⟨v1, rfl, ho, hb⟩
  have hz := hb.size
  simp only [World.size_alloc] at hz
  have HB1 : Hid (Below w.heap.size w w1) := hW0.trans (hb.mono (by simp; omega))
  have HSB1 := Lib.hid (HSB.out.bel hb)
  have HGB1 := Lib.hid (HGB.out.bel hb)
  obtain ⟨gb, cap, hv1, hgb1, -⟩ := OI.at_ ho (k := 0) (by have := HDL.out; omega)
  have hgb2 : gb < w1.heap.size := by rw [hv1] at ho; exact (ho.1.lt gb rfl).2
  rw [HDL.out] at hv1
  subst hv1
  simp only [World.size_alloc] at hgb1
  have HO1 : Hid (OI w1 w.heap.size (.slice (some ⟨gb, 0, none⟩) n cap) ds) := OV.mono ho (by simp; omega)
  have c1 : (w1.alloc (.cells #[.slice (some ⟨gb, 0, none⟩) n cap] 26)).cell? ⟨w.heap.size, 1, none⟩ = some (.slice A es.length c) := (HGB1.out.alloc _).cell 1
  clear hb ho
  go_wp2
  clear c1
  go_loopw [17] (fun i wr => ∃ k : Nat, k ≤ es.length ∧ i = .int .i64 k ∧ Hid (OI wr w.heap.size (.slice (some ⟨gb, 0, none⟩) n cap) (moveE zs (es.take k) ds)) ∧ Hid (BL wr (w.heap.size + 1) 42 [.slice A3 zs.length c3]) ∧ Hid (BL wr w1.heap.size 26 [.slice (some ⟨gb, 0, none⟩) n cap]) ∧ Hid (Below w.heap.size w wr)) (fun i _ => es.length - (intOf i).toNat)
  case atStart => exact ⟨0, Nat.zero_le _, rfl, HO1.out.below (below_alloc w1 _), HSB1.out.alloc _, BL.new' w1 _ _, HB1.out.alloc (by omega) _⟩
  case round =>
    obtain ⟨k, hk, rfl, ho, hsb, hob, hbel⟩ := hrel
    by_cases hlt : k < es.length
    · obtain ⟨ad, a, b, m, rfl, hab, ht, q1, q2, q3⟩ := HC.out k hlt
      obtain ⟨d1, d2, d3⟩ := tri_cells hbel.out hab q1 q2 q3
      have hen := HE.out.lo _ (getD_tri ht)
      have hmm := HE.out.mult _ (getD_tri ht)
      simp only at hen hmm
      obtain ⟨x, rfl⟩ := Int.eq_ofNat_of_zero_le hen.1
      obtain ⟨y, rfl⟩ := Int.eq_ofNat_of_zero_le (show 0 ≤ b by omega)
      have hBd : Bd 100000000000 (moveE zs (es.take k) ds) := Bd.mono (moveE_bd HDL.out (ends_take HE.out.ends k) (fun t ht => HE.out.mult t (List.mem_of_mem_take ht)) HZB.out HDB.out) (by rw [List.length_take]; omega)
      have HW : Hid (Below wr.heap.size wr (wr.alloc (.cells #[.int .i64 x, .int .i64 y, .int .i64 m] 54))) := below_alloc wr _
      have HJ := Lib.hid (along_any x y m (w.heap.size + 1) w1.heap.size w.heap.size gb cap n (.slice A3 zs.length c3) zs (moveE zs (es.take k) ds) _ (hsb.out.bel HW.out) (hob.out.bel HW.out) ((HS.out.below hbel.out).below HW.out) (ho.out.below HW.out)
        (by have := HZL.out; omega) (by have := HZL.out; omega) (by rw [moveE_len, HDL.out, HZL.out]) hmm HZB.out hBd)
      have HT : Hid (moveT zs (moveE zs (es.take k) ds) (x, y, m) = moveE zs (es.take (k + 1)) ds) := by show _ = _; rw [take_tri ht, moveE_snoc]
      have hne1 : w.heap.size + 1 ≠ gb := by omega
      have hne2 : w1.heap.size ≠ gb := by omega
      clear q1 q2 q3 HC ht hen hmm hBd
      go_wp2_with fail
      refine HJ.out.mono ?_
      rintro e w' ⟨⟨v, rfl⟩, hj, hgr⟩
      rw [HT.out] at hj
      have HJ2 := Lib.hid hj
      have HGR := Lib.hid hgr
      clear hgr hj
      go_wp2
      go_roundw
      case rel => exact ⟨k + 1, by omega, by go_num, HJ2.out, (hsb.out.bel HW.out).grown HGR.out (by simp; omega), (hob.out.bel HW.out).grown HGR.out (by simp; omega), (hbel.out.trans (HW.out.mono hbel.out.size)).grown HGR.out (by have := hbel.out.size; simp; omega) (fun j hj => by simp at hj; omega)⟩
      case measure => simp [intOf]; omega
    · have hke : es.take k = es := List.take_of_length_le (by omega)
      rw [hke] at ho
      have cc : wr.cell? ⟨w1.heap.size, 0, none⟩ = some (.slice (some ⟨gb, 0, none⟩) n cap) := hob.out.cell 0
      clear hke
      go_wp2
      go_ret
      exact ⟨_, rfl, ho.out, hbel.out⟩
end Go.Proofs.YtjfggodnfoknfaaGreatDoor

namespace Go.Proofs.YtjfggodnfoknfaaGreatDoor
open Go.RowKit Go.Shelf

def Pair (w : World) (l : List Int × Int) (e : Ending) (w' : World) : Prop := ∃ v, e = .returned (.tuple #[v, .int .i64 l.2]) ∧ OI w' w.heap.size v l.1 ∧ Below w.heap.size w w'
def applyL (n : Int) (es : List Tri) (ds zs : List Int) : List Int × Int :=
  if fGiven n es ds ≠ 0 then ([], fGiven n es ds) else if fGiven n es zs ≠ 0 then ([], fGiven n es zs) else bndL (moveE zs es ds)
theorem checkE_ok {zs : List Int} {n : Int} (h : checkE zs n = 0) : 1 ≤ n ∧ n ≤ 12 ∧ (zs.length : Int) = n ∧ zs.all InB = true := by
  unfold checkE at h
  by_cases a : n < 1 ∨ 12 < n
  · rw [if_pos a] at h; cases h
  · rw [if_neg a] at h
    by_cases b : (zs.length : Int) ≠ n
    · rw [if_pos b] at h; cases h
    · rw [if_neg b] at h
      cases c : zs.all InB
      · simp [c] at h
      · exact ⟨by omega, by omega, by omega, rfl⟩
theorem inB_bd {zs : List Int} (h : zs.all InB = true) : Bd 1048576 zs := fun j => by
  rcases Nat.lt_or_ge j zs.length with c | c
  · rw [List.getD_eq_getElem?_getD, List.getElem?_eq_getElem c]
    exact (inB_iff _).1 (List.all_eq_true.1 h _ (List.getElem_mem c))
  · rw [List.getD_eq_getElem?_getD, List.getElem?_eq_none c]; simp
theorem fGiven_ok {n : Int} {es : List Tri} {zs : List Int} (h : fGiven n es zs = 0) : ∃ m : Nat, n = m ∧ 1 ≤ m ∧ m ≤ 12 ∧ Edges m es ∧ zs.length = m ∧ zs.all InB = true := by
  unfold fGiven at h
  by_cases a : gcheckE n es = 0
  · simp only [a, ne_eq, not_true_eq_false, if_false] at h
    obtain ⟨m, rfl, h1, h2, h3⟩ := gcheckE_zero a
    obtain ⟨_, _, h4, h5⟩ := checkE_ok h
    exact ⟨m, rfl, h1, h2, h3, by omega, h5⟩
  · simp [a] at h
theorem Apply_any (g d s : Value) (n : Int) (es : List Tri) (ds zs : List Int) (w : World) (hg : GV w g n es) (hd : RI w d ds) (hs : RI w s zs) :
    Calls Tryz.prog 36 #[g, d, s] w (Pair w (applyL n es ds zs)) := by
  have HG := Lib.hid hg
  have HD := Lib.hid hd
  have HS := Lib.hid hs
  obtain ⟨A, c, rfl, hlc, hc, -⟩ := hg.open_
  obtain ⟨A2, c2, rfl, -, -, -⟩ := hd.open_
  obtain ⟨A3, c3, rfl, -, -, -⟩ := hs.open_
  have HB0 := Lib.hid (below_alloc w (.cells #[.int .i64 n, .slice A es.length c] 24))
  have HBL := Lib.hid (BL.new' w #[.int .i64 n, .slice A es.length c] 24)
  clear hg hd hs
  by_cases h0 : fGiven n es ds = 0
  · have H0 := Lib.hid h0
    go_enter Tryz.func36, Tryz.ntmps36
    clear h0
    go_wp2_with fail
    refine (fGiven_any _ _ n es ds _ (HG.out.below HB0.out) (HD.out.below HB0.out)).mono ?_
    rw [H0.out]
    rintro e w1 ⟨rfl, hb1⟩
    have HB1 := Lib.hid (HB0.out.trans (hb1.mono (by simp)))
    have HBL1 := Lib.hid (HBL.out.bel hb1)
    have c0 : w1.cell? ⟨w.heap.size, 0, none⟩ = some (.int .i64 n) := HBL1.out.cell 0
    have c1 : w1.cell? ⟨w.heap.size, 1, none⟩ = some (.slice A es.length c) := HBL1.out.cell 1
    clear hb1
    by_cases h1 : fGiven n es zs = 0
    · have H1 := Lib.hid h1
      clear h1
      go_wp2_with fail
      refine (fCheck_any _ _ n es zs _ (HG.out.below HB1.out) (HS.out.below HB1.out)).mono ?_
      rw [H1.out]
      rintro e w2 ⟨rfl, hb2⟩
      have HB2 := Lib.hid (HB1.out.trans (hb2.mono HB1.out.size))
      have HBL2 := Lib.hid (HBL1.out.bel hb2)
      have e0 : w2.cell? ⟨w.heap.size, 0, none⟩ = some (.int .i64 n) := HBL2.out.cell 0
      have e1 : w2.cell? ⟨w.heap.size, 1, none⟩ = some (.slice A es.length c) := HBL2.out.cell 1
      clear hb2 c0 c1
      obtain ⟨m, hm, hm1, hm2, hed, hl1, ha1⟩ := fGiven_ok H0.out
      obtain ⟨m', hm', -, -, -, hl2, ha2⟩ := fGiven_ok H1.out
      have hmm : m' = m := by omega
      have HM := Lib.hid (moved_any _ _ _ m es ds zs _ (hm ▸ HG.out.below HB2.out) (HD.out.below HB2.out) (HS.out.below HB2.out) hm2 hm1 hed hl1 (hmm ▸ hl2) (inB_bd ha1) (inB_bd ha2))
      rw [← hm] at HM
      clear hm hm' hed hl1 ha1 hl2 ha2 hmm
      go_wp2_with fail
      refine HM.out.mono ?_
      rintro e w3 ⟨v, rfl, ho, hb3⟩
      have HB3 := Lib.hid (HB2.out.trans (hb3.mono HB2.out.size))
      have HO3 := Lib.hid (OV.mono ho HB2.out.size : OI w3 w.heap.size v _)
      clear ho hb3 e0 e1
      go_wp2_with fail
      refine (bounded_any _ _ _ w.heap.size HO3.out).mono ?_
      rintro e w4 ⟨u, rfl, ho4, rfl⟩
      have HO4 := Lib.hid ho4
      clear ho4
      go_wp2
      go_ret2
      refine ⟨u, ?_, ?_, HB3.out⟩
      · simp only [applyL, H0.out, H1.out, ne_eq, not_true_eq_false, if_false]; rfl
      · simp only [applyL, H0.out, H1.out, ne_eq, not_true_eq_false, if_false]; exact HO4.out
    · have hne : (fGiven n es zs != 0) = true := by simp [h1]
      have H1 := Lib.hid h1
      clear h1
      go_wp2_with fail
      refine (fCheck_any _ _ n es zs _ (HG.out.below HB1.out) (HS.out.below HB1.out)).mono ?_
      rintro e w2 ⟨rfl, hb2⟩
      have HB2 := Lib.hid (HB1.out.trans (hb2.mono HB1.out.size))
      clear hb2
      go_wp2
      go_ret2
      refine ⟨.slice none 0 0, ?_, ?_, HB2.out⟩
      · simp [applyL, H0.out, H1.out]
      · simp only [applyL, H0.out, H1.out, ne_eq, not_true_eq_false, not_false_eq_true, if_false, if_true]; exact OI.nil_ _ _
  · have hne : (fGiven n es ds != 0) = true := by simp [h0]
    have H0 := Lib.hid h0
    clear h0
    go_enter Tryz.func36, Tryz.ntmps36
    go_wp2_with fail
    refine (fGiven_any _ _ n es ds _ (HG.out.below HB0.out) (HD.out.below HB0.out)).mono ?_
    rintro e w1 ⟨rfl, hb1⟩
    have HB1 := Lib.hid (HB0.out.trans (hb1.mono (by simp)))
    clear hb1
    go_wp2
    go_ret2
    refine ⟨.slice none 0 0, ?_, ?_, HB1.out⟩
    · simp [applyL, H0.out]
    · simp only [applyL, H0.out, ne_eq, not_false_eq_true, if_true]; exact OI.nil_ _ _
end Go.Proofs.YtjfggodnfoknfaaGreatDoor

