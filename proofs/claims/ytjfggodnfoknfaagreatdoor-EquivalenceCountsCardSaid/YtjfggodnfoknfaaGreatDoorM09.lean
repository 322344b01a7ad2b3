/- Settling: how far it can go. Printed by gen/settle35.py. No program in sight.
   Contract of reduced's settle.
   Contract of reduced's settle: the walk.
   Contracts of bits.Mul at small numbers and of slices.Repeat at one int.
   Contract of slices.Repeat at one int.
   A queue of ints in the call's own memory: a slice at an offset. -/
import Derived.Test.YtjfggodnfoknfaaGreatDoorM08
import Derived.Laws.CopyOwn
set_option maxRecDepth 100000
set_option maxHeartbeats 16000000
namespace Go.Proofs.YtjfggodnfoknfaaGreatDoor

/-- A script that is 0 at q, and of which the parts above each height move at most K chips, is at most n * K. -/
theorem script_le2 {n : Nat} {w : Nat → Nat → Int} (hw : ∀ v u, 0 ≤ w v u) (hs : ∀ v u, w v u = w u v) (hc : Conn n w) {q : Nat} (hq : q < n) {s : Nat → Int} (h0 : s q ≤ 0) {K : Int} (hK : 0 ≤ K)
    (h : ∀ c : Int, 0 ≤ c → (sumN n fun v => (if s v ≤ c then 0 else 1) * lap n w s v) ≤ K) : ∀ v, v < n → s v ≤ n * K := by
  have step : ∀ k : Nat, k + 1 ≤ countN n (fun v => decide (s v ≤ (k : Int) * K)) ∨ n ≤ countN n (fun v => decide (s v ≤ (k : Int) * K)) := by
    intro k
    induction k with
    | zero =>
      left
      have : countN n (fun _ => false) < countN n (fun v => decide (s v ≤ ((0 : Nat) : Int) * K)) := countN_lt (fun v _ e => by cases e) hq rfl (by simp; omega)
      omega
    | succ k ih =>
      have hup : ((k + 1 : Nat) : Int) * K = (k : Int) * K + K := by push_cast; rw [Int.add_mul, Int.one_mul]
      rw [hup]
      have hsub : ∀ v, v < n → decide (s v ≤ (k : Int) * K) = true → decide (s v ≤ (k : Int) * K + K) = true := fun v _ hv => by simp at hv ⊢; omega
      rcases ih with ih | ih
      · by_cases hall : n ≤ countN n (fun v => decide (s v ≤ (k : Int) * K))
        · right; exact Nat.le_trans hall (countN_mono hsub)
        · left
          have hex : ∃ v, v < n ∧ ¬ s v ≤ (k : Int) * K := by
            apply Classical.byContradiction
            intro hne
            have hle : countN n (fun _ => true) ≤ countN n (fun v => decide (s v ≤ (k : Int) * K)) := countN_mono fun v hv _ => by
              simp only [decide_eq_true_eq]
              apply Classical.byContradiction
              intro hv2
              exact hne ⟨v, hv, hv2⟩
            have hn : ∀ m, countN m (fun _ => true) = m := fun m => by induction m with | zero => rfl | succ m ih => simp [countN, ih]
            rw [hn] at hle
            exact hall hle
          obtain ⟨x, hx, hx2⟩ := hex
          have hk0 : 0 ≤ (k : Int) * K := Int.mul_nonneg (by omega) hK
          obtain ⟨v, u, hv, hu, ha, hb, hwu⟩ := hc (fun v => decide (¬ s v ≤ (k : Int) * K)) ⟨x, hx, by simpa using hx2⟩ ⟨q, hq, by simp; omega⟩
          simp only [decide_eq_true_eq] at ha
          have hb' : s u ≤ (k : Int) * K := by simpa using hb
          have hcut := cut_sum hs s (n := n) fun v => if s v ≤ (k : Int) * K then 0 else 1
          have hup2 := h ((k : Int) * K) hk0
          rw [hcut] at hup2
          have hnn : ∀ v, v < n → 0 ≤ sumN n fun u => (if s v ≤ (k : Int) * K then 0 else 1) * (1 - if s u ≤ (k : Int) * K then 0 else 1) * (w v u * (s v - s u)) := fun v hv => sumN_nonneg fun u hu => by
            by_cases c1 : s v ≤ (k : Int) * K
            · rw [if_pos c1]; simp
            · by_cases c2 : s u ≤ (k : Int) * K
              · rw [if_neg c1, if_pos c2]
                have := Int.mul_nonneg (hw v u) (show 0 ≤ s v - s u by omega)
                omega
              · rw [if_neg c1, if_neg c2]; simp
          have t1 := sumN_ge hnn hv
          have t2 := sumN_ge (n := n) (c := u) (f := fun u => (if s v ≤ (k : Int) * K then 0 else 1) * (1 - if s u ≤ (k : Int) * K then 0 else 1) * (w v u * (s v - s u))) (fun u hu => by
            by_cases c2 : s u ≤ (k : Int) * K
            · rw [if_neg ha, if_pos c2]
              have := Int.mul_nonneg (hw v u) (show 0 ≤ s v - s u by omega)
              omega
            · rw [if_neg ha, if_neg c2]; simp) hu
          simp only [if_neg ha, if_pos hb'] at t1 t2
          have t3 := Int.mul_le_mul_of_nonneg_right (show (1 : Int) ≤ w v u by omega) (show 0 ≤ s v - s u by omega)
          have hlast : s v ≤ (k : Int) * K + K := by omega
          have := countN_lt hsub hv (by simpa using ha) (by simpa using hlast)
          omega
      · right; exact Nat.le_trans ih (countN_mono hsub)
  intro v hv
  have hfin := step n
  have hl := countN_le n (fun v => decide (s v ≤ (n : Int) * K))
  have := countN_all (n := n) (p := fun v => decide (s v ≤ (n : Int) * K)) (by omega) v hv
  simpa using this

theorem sumN_list (d : List Int) : (sumN d.length fun v => d.getD v 0) = d.sum := by
  have key : ∀ m, m ≤ d.length → (sumN m fun v => d.getD v 0) = (d.take m).sum := fun m hm => by
    induction m with
    | zero => simp [sumN]
    | succ m ih =>
      simp only [sumN]
      rw [ih (by omega), List.take_succ_eq_append_getElem (by omega), List.sum_append, List.getD_eq_getElem?_getD, List.getElem?_eq_getElem (by omega)]
      simp
  rw [key _ (Nat.le_refl _), List.take_length]
/-- What holds while it settles: d is what the script s - s0 makes of d0; nobody but q has a debt. -/
structure Stl (n q : Nat) (es : List Tri) (d0 s0 d s : List Int) : Prop where
  dl : d.length = n
  sl : s.length = n
  eq : ∀ v, v < n → d.getD v 0 = d0.getD v 0 - lap n (wgt es) (fun u => s.getD u 0 - s0.getD u 0) v
  up : ∀ v, v < n → s0.getD v 0 ≤ s.getD v 0
  own : s.getD q 0 = s0.getD q 0
  pos : ∀ v, v < n → v ≠ q → 0 ≤ d.getD v 0
  low : d0.getD q 0 ≤ d.getD q 0
theorem stl_start {n q : Nat} {es : List Tri} {d0 s0 : List Int} (hd : d0.length = n) (hs : s0.length = n) (hp : ∀ v, v < n → v ≠ q → 0 ≤ d0.getD v 0) : Stl n q es d0 s0 d0 s0 :=
  ⟨hd, hs, fun v hv => by
    have : lap n (wgt es) (fun u => s0.getD u 0 - s0.getD u 0) v = 0 := sumN_zero fun u _ => by simp
    rw [this]; omega, fun _ _ => Int.le_refl _, rfl, hp, Int.le_refl _⟩
theorem stl_total {n q : Nat} {es : List Tri} {d0 s0 d s : List Int} (h : Stl n q es d0 s0 d s) : (sumN n fun v => d.getD v 0) = sumN n fun v => d0.getD v 0 := by
  have e : (sumN n fun v => d.getD v 0) = (sumN n fun v => d0.getD v 0) + -(sumN n fun v => lap n (wgt es) (fun u => s.getD u 0 - s0.getD u 0) v) := by
    rw [← sumN_neg, ← sumN_add]
    exact sumN_congr fun v hv => by rw [h.eq v hv]; omega
  rw [e, lap_sum (wgt_sym es)]; omega
theorem sumN_but {n q : Nat} (hq : q < n) (f : Nat → Int) (hp : ∀ v, v < n → v ≠ q → 0 ≤ f v) {v : Nat} (hv : v < n) (hne : v ≠ q) : f v ≤ sumN n f - f q := by
  have h := sumN_ge (n := n) (c := v) (f := fun u => if u = q then 0 else f u) (fun i hi => by
    split
    · exact Int.le_refl _
    · next c => exact hp i hi c) hv
  have e : sumN n f = (sumN n fun u => if u = q then 0 else f u) + sumN n fun u => if u = q then f u else 0 := by
    rw [← sumN_add]; exact sumN_congr fun u _ => by split <;> omega
  have e2 : (sumN n fun u => if u = q then f u else 0) = f q := by
    rw [sumN_one (c := q) hq (fun i _ hi => by rw [if_neg hi]), if_pos rfl]
  simp only [if_neg hne] at h
  omega
/-- All numbers, while it settles. -/
theorem stl_bd {n q : Nat} {es : List Tri} {d0 s0 d s : List Int} (hE : Edges n es) (hc : Conn n (wgt es)) (hq : q < n) (h : Stl n q es d0 s0 d s) (h0 : ∀ v, v < n → v ≠ q → 0 ≤ d0.getD v 0) {T : Int} (hT : (sumN n fun v => d0.getD v 0) - d0.getD q 0 ≤ T) (hT0 : 0 ≤ T) :
    (∀ v, v < n → v ≠ q → d.getD v 0 ≤ T) ∧ d.getD q 0 ≤ d0.getD q 0 + T ∧ ∀ v, v < n → s.getD v 0 - s0.getD v 0 ≤ n * T := by
  have htot := stl_total h
  have hlow := h.low
  refine ⟨fun v hv hne => ?_, ?_, ?_⟩
  · have := sumN_but hq (fun v => d.getD v 0) h.pos hv hne
    have this : d.getD v 0 ≤ (sumN n fun v => d.getD v 0) - d.getD q 0 := this
    omega
  · have hs := sumN_ge (n := n) (c := q) (f := fun u => if u = q then 0 else d.getD u 0) (fun i hi => by
      split
      · exact Int.le_refl _
      · next c => exact h.pos i hi c) hq
    have e : (sumN n fun v => d.getD v 0) = (sumN n fun u => if u = q then 0 else d.getD u 0) + sumN n fun u => if u = q then d.getD u 0 else 0 := by
      rw [← sumN_add]; exact sumN_congr fun u _ => by split <;> omega
    have e2 : (sumN n fun u => if u = q then d.getD u 0 else 0) = d.getD q 0 := by
      rw [sumN_one (c := q) hq (fun i _ hi => by rw [if_neg hi]), if_pos rfl]
    have hs : (if q = q then (0 : Int) else d.getD q 0) ≤ _ := hs
    rw [if_pos rfl] at hs
    omega
  · refine script_le2 (wgt_nonneg hE.pos) (wgt_sym es) hc hq (by rw [h.own]; omega) hT0 fun c hcc => ?_
    have hterm : ∀ v, v < n → (if s.getD v 0 - s0.getD v 0 ≤ c then 0 else 1) * lap n (wgt es) (fun u => s.getD u 0 - s0.getD u 0) v ≤ if v = q then 0 else d0.getD v 0 := fun v hv => by
      have e := h.eq v hv
      by_cases hvq : v = q
      · subst hvq
        rw [if_pos (by rw [h.own]; omega), if_pos rfl]; omega
      · rw [if_neg hvq]
        have p1 := h.pos v hv hvq
        have p2 := h0 v hv hvq
        split <;> omega
    refine Int.le_trans (sumN_mono hterm) ?_
    have e : (sumN n fun v => d0.getD v 0) = (sumN n fun u => if u = q then 0 else d0.getD u 0) + sumN n fun u => if u = q then d0.getD u 0 else 0 := by
      rw [← sumN_add]; exact sumN_congr fun u _ => by split <;> omega
    have e2 : (sumN n fun u => if u = q then d0.getD u 0 else 0) = d0.getD q 0 := by
      rw [sumN_one (c := q) hq (fun i _ hi => by rw [if_neg hi]), if_pos rfl]
    omega
/-- One round. -/
theorem stl_step {n q : Nat} {es : List Tri} {d0 s0 d s d' s' : List Int} (hE : Edges n es) (h : Stl n q es d0 s0 d s) (A : Nat → Bool) (hq : q < n) (hA : A q = false) {k : Int} (hk : 0 ≤ k) (hdl : d'.length = n) (hsl : s'.length = n)
    (hd : ∀ v, v < n → d'.getD v 0 = d.getD v 0 - lap n (wgt es) (fun u => if A u then k else 0) v) (hs : ∀ v, v < n → s'.getD v 0 = s.getD v 0 + if A v then k else 0)
    (hmay : ∀ v, v < n → A v = true → k * outw n (wgt es) A v ≤ d.getD v 0) : Stl n q es d0 s0 d' s' := by
  have hw := wgt_nonneg hE.pos
  have hj : ∀ v, 0 ≤ k * joinw n (wgt es) A v := fun v => Int.mul_nonneg hk (sumN_nonneg fun u _ => by split; exact hw v u; exact Int.le_refl _)
  refine ⟨hdl, hsl, fun v hv => ?_, fun v hv => ?_, ?_, fun v hv hne => ?_, ?_⟩
  · rw [hd v hv, h.eq v hv, Int.sub_sub, ← lap_add]
    congr 1
    refine lap_congr hv fun u hu => ?_
    rw [hs u hu]; omega
  · rw [hs v hv]; have := h.up v hv; split <;> omega
  · rw [hs q hq, hA]; simpa using h.own
  · rw [hd v hv, lap_ind]
    have := h.pos v hv hne
    have := hj v
    cases ha : A v
    · simp only [Bool.false_eq_true, if_false]; omega
    · simp only [if_true]; have := hmay v hv ha; omega
  · rw [hd q hq, lap_ind, hA]
    have := h.low
    have := hj q
    simp only [Bool.false_eq_true, if_false]; omega
end Go.Proofs.YtjfggodnfoknfaaGreatDoor

namespace Go.Proofs.YtjfggodnfoknfaaGreatDoor
open Go.RowKit Go.Shelf

/-- How often the vertices below k let the unburnt ones fire. -/
def TimesR (k : Nat) (es : List Tri) (d : List Int) (bt : List Bool) (tm : Int) : Prop :=
  (tm = 0 ∧ ∀ v, v < k → fnB bt v = false → joinE es (fnB bt) v = 0) ∨ (1 ≤ tm ∧ ∀ v, v < k → fnB bt v = false → tm * joinE es (fnB bt) v ≤ fnD d v)
theorem fnB_not (bt : List Bool) {v : Nat} (hv : v < bt.length) : fnB (bt.map fun x => !x) v = !fnB bt v := by
  unfold fnB
  rw [List.getD_eq_getElem?_getD, List.getD_eq_getElem?_getD, List.getElem?_map, List.getElem?_eq_getElem hv]; rfl
theorem joinE_congr {es : List Tri} {n : Nat} (hE : Edges n es) {p p' : Nat → Bool} {v : Nat} (h : ∀ u, u < n → p u = p' u) : joinE es p v = joinE es p' v := by
  rw [← join_edges hE.ends, ← join_edges hE.ends]
  unfold joinw
  exact sumN_congr fun u hu => by rw [h u hu]
theorem times_step {n k : Nat} {es : List Tri} {d : List Int} {bt : List Bool} {tm most : Int} (hE : Edges n es) (hc : Calm n es d bt) (hk : k < n) (h : TimesR k es d bt tm) (hj : 0 < joinE es (fnB bt) k) (hd : joinE es (fnB bt) k ≤ fnD d k) (hm : most = fnD d k / joinE es (fnB bt) k) :
    TimesR (k + 1) es d bt (if tm = 0 ∨ most < tm then most else tm) := by
  have h1 : 1 ≤ most := by rw [hm]; exact (Int.le_ediv_iff_mul_le hj).2 (by omega)
  have h2 : most * joinE es (fnB bt) k ≤ fnD d k := by rw [hm]; exact Int.ediv_mul_le _ (by omega)
  have key : ∀ x, 1 ≤ x → x ≤ most → (∀ v, v < k → fnB bt v = false → x * joinE es (fnB bt) v ≤ fnD d v) → TimesR (k + 1) es d bt x := fun x hx1 hx hall => .inr ⟨hx1, fun v hv hf => by
    rcases Nat.lt_or_ge v k with c | c
    · exact hall v c hf
    · have : v = k := by omega
      subst this
      exact Int.le_trans (Int.mul_le_mul_of_nonneg_right hx (by omega)) h2⟩
  rcases h with ⟨h0, hz⟩ | ⟨h3, h4⟩
  · rw [if_pos (.inl h0)]
    refine key most h1 (Int.le_refl _) fun v hv hf => ?_
    have := hc v (by omega) hf
    rw [hz v hv hf] at this ⊢
    omega
  · by_cases c : tm = 0 ∨ most < tm
    · rw [if_pos c]
      have hlt : most < tm := by omega
      refine key most h1 (Int.le_refl _) fun v hv hf => ?_
      exact Int.le_trans (Int.mul_le_mul_of_nonneg_right (Int.le_of_lt hlt) (joinE_le hE.pos _ v).1) (h4 v hv hf)
    · rw [if_neg c]
      exact key tm h3 (by omega) h4
theorem times_skip {k : Nat} {es : List Tri} {d : List Int} {bt : List Bool} {tm : Int} (h : TimesR k es d bt tm) (hs : fnB bt k = true ∨ (joinE es (fnB bt) k = 0 ∧ 0 ≤ fnD d k)) : TimesR (k + 1) es d bt tm := by
  have key : ∀ v, v < k + 1 → v < k ∨ v = k := fun v hv => by omega
  rcases h with ⟨h0, hz⟩ | ⟨h3, h4⟩
  · refine .inl ⟨h0, fun v hv hf => ?_⟩
    rcases key v hv with c | rfl
    · exact hz v c hf
    · rcases hs with hs | hs
      · rw [hs] at hf; cases hf
      · exact hs.1
  · refine .inr ⟨h3, fun v hv hf => ?_⟩
    rcases key v hv with c | rfl
    · exact h4 v c hf
    · rcases hs with hs | hs
      · rw [hs] at hf; cases hf
      · rw [hs.1, Int.mul_zero]; exact hs.2
/-- What one firing of the unburnt ones gives. -/
theorem settle_round {n q : Nat} {es : List Tri} {d0 s0 d s : List Int} {bt : List Bool} {tm : Int} (hE : Edges n es) (hc : Conn n (wgt es)) (hq : q < n) (h : Stl n q es d0 s0 d s) (hb : Burn n q es d bt) (hany : ∃ v, v < n ∧ fnB bt v = false) (ht : TimesR n es d bt tm) :
    1 ≤ tm ∧ (∃ v, v < n ∧ fnB bt v = false ∧ tm ≤ fnD d v) ∧ Stl n q es d0 s0 (fireS (bt.map fun x => !x) tm es n d) (addS (bt.map fun x => !x) tm n s) := by
  have hout : ∀ v, outw n (wgt es) (fun u => !fnB bt u) v = joinE es (fnB bt) v := fun v => by rw [outw_not, join_edges hE.ends]
  obtain ⟨v, hv, hvA, hvo⟩ := some_out (wgt_nonneg hE.pos) hc (A := fun u => !fnB bt u) hq (by simp [hb.2.1]) (by obtain ⟨v, hv, hf⟩ := hany; exact ⟨v, hv, by simp [hf]⟩)
  rw [hout] at hvo
  have hvf : fnB bt v = false := by simpa using hvA
  rcases ht with ⟨h0, hz⟩ | ⟨h1, hle⟩
  · have := hz v hv hvf; omega
  · refine ⟨h1, ⟨v, hv, hvf, ?_⟩, stl_step hE h (fun u => !fnB bt u) hq (by simp [hb.2.1]) (k := tm) (by omega) (by rw [fireS_len]; exact h.dl) (by rw [addS_len]; exact h.sl) (fun x hx => ?_) (fun x hx => ?_) (fun x hx hxA => ?_)⟩
    · have h2 := hle v hv hvf
      have h3 := Int.mul_le_mul_of_nonneg_left (show (1 : Int) ≤ joinE es (fnB bt) v by omega) (show 0 ≤ tm by omega)
      omega
    · rw [fireS_get hE.ends h.dl _ _ (Nat.le_refl _) hx, ← lap_edges hE.ends]
      congr 1
      refine lap_congr hx fun u hu => ?_
      have := fnB_not bt (v := u) (by rw [hb.1]; exact hu)
      unfold fnB at this ⊢
      rw [this]
      by_cases c : (!bt.getD u false) = true
      · rw [if_pos ⟨hu, c⟩, if_pos c]
      · rw [if_neg fun hh => c hh.2, if_neg c]
    · rw [addS_get (by rw [h.sl]; exact Nat.le_refl _)]
      congr 1
      have := fnB_not bt (v := x) (by rw [hb.1]; exact hx)
      unfold fnB at this ⊢
      rw [this]
      by_cases c : (!bt.getD x false) = true
      · rw [if_pos ⟨hx, c⟩, if_pos c]
      · rw [if_neg fun hh => c hh.2, if_neg c]
    · rw [hout]
      exact hle x hx (by simpa using hxA)
theorem settle_end {n q : Nat} {es : List Tri} {d : List Int} {bt : List Bool} (hb : Burn n q es d bt) (hall : ∀ v, v < n → fnB bt v = true) : Tight n (wgt es) q (fnD d) :=
  tight_of_burnt fun A hA hl v hv => hb.2.2 A hA hl v hv (hall v hv)
theorem any_false {bt : List Bool} {n : Nat} (hl : bt.length = n) (h : (bt.map fun x => !x).any id = false) : ∀ v, v < n → fnB bt v = true := by
  intro v hv
  unfold fnB
  rw [List.getD_eq_getElem?_getD, List.getElem?_eq_getElem (by omega)]
  have := List.any_eq_false.1 h (!bt[v]'(by omega)) (List.mem_map.2 ⟨_, List.getElem_mem (by omega), rfl⟩)
  simpa using this
theorem any_true {bt : List Bool} {n : Nat} (hl : bt.length = n) (h : (bt.map fun x => !x).any id = true) : ∃ v, v < n ∧ fnB bt v = false := by
  obtain ⟨x, hx, hx2⟩ := List.any_eq_true.1 h
  obtain ⟨y, hy, rfl⟩ := List.mem_map.1 hx
  obtain ⟨i, hi, rfl⟩ := List.getElem_of_mem hy
  refine ⟨i, by omega, ?_⟩
  unfold fnB
  rw [List.getD_eq_getElem?_getD, List.getElem?_eq_getElem hi]
  simpa using hx2
/-- Room for the scripts: it shrinks with each round. -/
def roomN (n : Nat) (T : Int) (s0 s : List Int) : Nat := (sumN n fun v => (n : Int) * T - (s.getD v 0 - s0.getD v 0)).toNat
end Go.Proofs.YtjfggodnfoknfaaGreatDoor

namespace Go.Proofs.YtjfggodnfoknfaaGreatDoor
open Go.RowKit Go.Shelf
/-- What holds between settle's rounds. -/
def SetR (b eb n q gd capd gs caps B : Nat) (ve : Value) (es : List Tri) (d0 s0 : List Int) (w : World) (d s : List Int) (wr : World) : Prop :=
  ST wr b n ve q (.slice (some ⟨gd, 0, none⟩) n capd) (.slice (some ⟨gs, 0, none⟩) n caps) 0 ∧ EB wr ve es eb ∧ OI wr B (.slice (some ⟨gd, 0, none⟩) n capd) d ∧ OI wr B (.slice (some ⟨gs, 0, none⟩) n caps) s ∧ Fr [gd, gs] w wr ∧ Stl n q es d0 s0 d s
theorem SetR.below {b eb n q gd capd gs caps B : Nat} {ve : Value} {es : List Tri} {d0 s0 : List Int} {w : World} {d s : List Int} {wr W : World} (h : SetR b eb n q gd capd gs caps B ve es d0 s0 w d s wr) (hb : Below wr.heap.size wr W) : SetR b eb n q gd capd gs caps B ve es d0 s0 w d s W :=
  ⟨BL.bel h.1 hb, h.2.1.below hb, h.2.2.1.below hb, h.2.2.2.1.below hb, h.2.2.2.2.1.below hb, h.2.2.2.2.2⟩
/-- What holds within a round: the unburnt ones lie at block gl, behind a box at hb. -/
def SetI (b eb n q gd capd gs caps B : Nat) (ve : Value) (es : List Tri) (d0 s0 : List Int) (w : World) (d s : List Int) (hb B2 gl cl : Nat) (lf : List Bool) (wr : World) : Prop :=
  SetR b eb n q gd capd gs caps B ve es d0 s0 w d s wr ∧ BL wr hb 139 [.slice (some ⟨gl, 0, none⟩) n cl] ∧ OV wr B2 4 (.slice (some ⟨gl, 0, none⟩) n cl) (lf.map Value.bool)
theorem SetI.below {b eb n q gd capd gs caps B : Nat} {ve : Value} {es : List Tri} {d0 s0 : List Int} {w : World} {d s : List Int} {hb B2 gl cl : Nat} {lf : List Bool} {wr W : World} (h : SetI b eb n q gd capd gs caps B ve es d0 s0 w d s hb B2 gl cl lf wr) (hw : Below wr.heap.size wr W) : SetI b eb n q gd capd gs caps B ve es d0 s0 w d s hb B2 gl cl lf W :=
  ⟨h.1.below hw, BL.bel h.2.1 hw, OV.below h.2.2 hw⟩
theorem bd_of {n : Nat} {d : List Int} {B : Int} (hl : d.length = n) (hB : 0 ≤ B) (h : ∀ v, v < n → -B ≤ d.getD v 0 ∧ d.getD v 0 ≤ B) : Bd B d := fun j => by
  rcases Nat.lt_or_ge j n with c | c
  · exact h j c
  · rw [List.getD_eq_getElem?_getD, List.getElem?_eq_none (by omega)]
    show -B ≤ 0 ∧ 0 ≤ B
    omega
theorem stl_bnd {n q : Nat} {es : List Tri} {d0 s0 d s : List Int} {T : Int} (hE : Edges n es) (hc : Conn n (wgt es)) (hn : n ≤ 12) (hq : q < n) (h : Stl n q es d0 s0 d s) (h0 : ∀ v, v < n → v ≠ q → 0 ≤ d0.getD v 0)
    (hT : (sumN n fun v => d0.getD v 0) - d0.getD q 0 ≤ T) (hT0 : 0 ≤ T ∧ T ≤ 80000) (hqb : -1000000 ≤ d0.getD q 0 ∧ d0.getD q 0 ≤ 1000000) (hsb : Bd 1000000 s0) : Bd 1100000 d ∧ Bd 2000000 s := by
  obtain ⟨h1, h2, h3⟩ := stl_bd hE hc hq h h0 hT hT0.1
  have hnT : (n : Int) * T ≤ 960000 := by
    have := Int.mul_le_mul (show (n : Int) ≤ 12 by omega) hT0.2 hT0.1 (by omega)
    omega
  refine ⟨bd_of h.dl (by omega) fun v hv => ?_, bd_of h.sl (by omega) fun v hv => ?_⟩
  · by_cases e : v = q
    · subst e; have := h.low; omega
    · have := h.pos v hv e; have := h1 v hv e; omega
  · have := h3 v hv; have := h.up v hv; have := hsb v; omega
theorem room_lt {n q : Nat} {es : List Tri} {d0 s0 d s s' : List Int} {T : Int} (hE : Edges n es) (hc : Conn n (wgt es)) (hq : q < n) (h : Stl n q es d0 s0 d s) (h0 : ∀ v, v < n → v ≠ q → 0 ≤ d0.getD v 0)
    (hT : (sumN n fun v => d0.getD v 0) - d0.getD q 0 ≤ T) (hT0 : 0 ≤ T) {d' : List Int} (h' : Stl n q es d0 s0 d' s') (hle : ∀ v, v < n → s.getD v 0 ≤ s'.getD v 0) (hx : ∃ v, v < n ∧ s.getD v 0 < s'.getD v 0) : roomN n T s0 s' < roomN n T s0 s := by
  obtain ⟨-, -, b1⟩ := stl_bd hE hc hq h h0 hT hT0
  obtain ⟨-, -, b2⟩ := stl_bd hE hc hq h' h0 hT hT0
  obtain ⟨x, hx, hlt⟩ := hx
  unfold roomN
  have n2 := sumN_nonneg (n := n) (f := fun v => (n : Int) * T - (s'.getD v 0 - s0.getD v 0)) fun v hv => by have := b2 v hv; omega
  have hd : (sumN n fun v => (n : Int) * T - (s.getD v 0 - s0.getD v 0)) = (sumN n fun v => (n : Int) * T - (s'.getD v 0 - s0.getD v 0)) + sumN n fun v => s'.getD v 0 - s.getD v 0 := by
    rw [← sumN_add]; exact sumN_congr fun v _ => by omega
  have hs := sumN_ge (n := n) (c := x) (f := fun v => s'.getD v 0 - s.getD v 0) (fun v hv => by have := hle v hv; omega) hx
  omega
theorem settle_any (b eb n q gd capd gs caps B : Nat) (ve : Value) (es : List Tri) (d0 s0 : List Int) (w : World) (T : Int) (hE : Edges n es) (hn : n ≤ 12) (hq : q < n) (hc : Conn n (wgt es))
    (hST : ST w b n ve q (.slice (some ⟨gd, 0, none⟩) n capd) (.slice (some ⟨gs, 0, none⟩) n caps) 0) (hEB : EB w ve es eb) (heb : eb < w.heap.size) (he1 : eb ≠ gd) (he2 : eb ≠ gs) (hgg : gd ≠ gs)
    (hd : OI w B (.slice (some ⟨gd, 0, none⟩) n capd) d0) (hs : OI w B (.slice (some ⟨gs, 0, none⟩) n caps) s0) (hdl : d0.length = n) (hsl : s0.length = n)
    (h0 : ∀ v, v < n → v ≠ q → 0 ≤ d0.getD v 0) (hT : (sumN n fun v => d0.getD v 0) - d0.getD q 0 ≤ T) (hT0 : 0 ≤ T ∧ T ≤ 80000) (hqb : -1000000 ≤ d0.getD q 0 ∧ d0.getD q 0 ≤ 1000000) (hsb : Bd 1000000 s0) :
    Calls Tryz.prog 60 #[.pointer (some ⟨b, 0, none⟩)] w fun e w' => (∃ v, e = .returned v) ∧ ∃ d s, SetR b eb n q gd capd gs caps B ve es d0 s0 w d s w' ∧ Tight n (wgt es) q (fnD d) := by
  have hbz : b < w.heap.size := BL.lt hST
  have HS0 : Hid (SetR b eb n q gd capd gs caps B ve es d0 s0 w d0 s0 w) := ⟨hST, hEB, hd, hs, Fr.refl _ _, stl_start hdl hsl h0⟩
  have hdz : gd < w.heap.size := (hd.1.lt gd rfl).2
  have hsz : gs < w.heap.size := (hs.1.lt gs rfl).2
  have hBg : B ≤ gd := (hd.1.lt gd rfl).1
  have HE := Lib.hid hE
  have HC := Lib.hid hc
  have H0 := Lib.hid h0
  have HT := Lib.hid hT
  have HT0 := Lib.hid hT0
  have HQ := Lib.hid hqb
  have HSB := Lib.hid hsb
  clear hST hEB hd hs hdl hsl hE hc h0 hT hT0 hqb hsb
  go_enter Tryz.func60, Tryz.ntmps60
  go_wp2_with fail
  go_loopg [2] (roomN n T s0 s0) (fun m x wr => ∃ d s : List Int, Hid (SetR b eb n q gd capd gs caps B ve es d0 s0 w d s wr) ∧ Hid (m = roomN n T s0 s))
  case atStart => exact ⟨d0, s0, HS0.out, rfl⟩
  case round =>
    obtain ⟨d, s, hr, hm⟩ := hrel
    obtain ⟨wo, rfl⟩ : ∃ wo : World, wo = wr := ⟨_, rfl⟩
    have hbo : w.heap.size ≤ wo.heap.size := hr.out.2.2.2.2.1.size
    have e5 : wo.cell? ⟨b, 5, none⟩ = some (.int .i64 0) := BL.cell hr.out.1 5
    have HU := Lib.hid (unburnt_any b eb n q gd capd B ve _ es d wo HE.out hn hq hr.out.1 hr.out.2.1 (by omega) hr.out.2.2.1 hr.out.2.2.2.2.2.dl)
    go_wp2_with fail
    refine HU.out.mono ?_
    rintro e w1 ⟨gl, cl, bt, rfl, hlv, hbu, hcm, hbel⟩
    have hz1 := hbel.size
    have HB1 := Lib.hid hbel
    have HLV := Lib.hid hlv
    have HBu := Lib.hid hbu
    have HCm := Lib.hid hcm
    obtain ⟨sm, hsm⟩ : ∃ sm, sm = (bt.map fun x => !x).any id := ⟨_, rfl⟩
    rw [← hsm]
    clear hlv hbu hcm hbel e5
    cases sm
    · have HAll := Lib.hid (any_false HBu.out.1 hsm.symm)
      clear hsm
      go_wp2
      refine bodyPost_ret (results_none rfl _ _ _) rfl ?_
      exact ⟨⟨_, rfl⟩, d, s, (hr.out.below HB1.out).below (below_alloc _ _), settle_end HBu.out HAll.out⟩
    · have HAny := Lib.hid (any_true HBu.out.1 hsm.symm)
      clear hsm
      obtain ⟨lf, hlf⟩ : ∃ lf, lf = bt.map fun x => !x := ⟨_, rfl⟩
      have hLL : lf.length = n := by rw [hlf]; simpa using HBu.out.1
      have HI0 : Hid (SetI b eb n q gd capd gs caps B ve es d0 s0 w d s w1.heap.size wo.heap.size gl cl lf (w1.alloc (.cells #[.slice (some ⟨gl, 0, none⟩) n cl] 139))) := by
        refine ⟨(hr.out.below HB1.out).below (below_alloc _ _), BL.new' _ _ _, ?_⟩
        have := OV.below HLV.out (below_alloc w1 (.cells #[.slice (some ⟨gl, 0, none⟩) n cl] 139))
        rwa [← hlf] at this
      have HLF := Lib.hid hlf
      clear hlf
      go_wp2
      go_loopw [4, 23] (fun tm i wr => ∃ (k : Nat) (tz : Int), k ≤ n ∧ i = .int .i64 (k : Int) ∧ tm = .int .i64 tz ∧ 0 ≤ tz ∧ tz ≤ 2000000 ∧ Hid (SetI b eb n q gd capd gs caps B ve es d0 s0 w d s w1.heap.size wo.heap.size gl cl lf wr) ∧ Hid (TimesR k es d bt tz)) (fun _ i _ => n - (intOf i).toNat)
      case atStart => exact ⟨0, 0, Nat.zero_le _, rfl, rfl, by omega, by omega, HI0.out, .inl ⟨rfl, fun v hv => by omega⟩⟩
      case round =>
        obtain ⟨k, tz, hk, rfl, rfl, htz0, htz1, hi, ht⟩ := hrel
        have hz2 := hi.out.2.1.lt
        by_cases hlt : k < n
        · obtain ⟨p1, -, -⟩ := bools_at hi.out.2.2 hLL hlt
          rw [show lf.getD k false = !fnB bt k by rw [HLF.out]; exact fnB_not bt (by rw [HBu.out.1]; exact hlt)] at p1
          cases hbk : fnB bt k
          · rw [hbk] at p1
            have HBK := Lib.hid hbk
            have HJ := Lib.hid (joins_any b k eb n ve q (.slice (some ⟨gd, 0, none⟩) n capd) (.slice (some ⟨gs, 0, none⟩) n caps) 0 es _ (fun u => !lf.getD u false) wr HE.out hlt hn hi.out.1.1 hi.out.1.2.1 (left_clo wr w1.heap.size wo.heap.size gl n cl lf hi.out.2.1 hi.out.2.2 hLL) (by omega) (by omega))
            have hjc : joinE es (fun u => !lf.getD u false) k = joinE es (fnB bt) k := joinE_congr HE.out fun u hu => by
              show (!lf.getD u false) = fnB bt u
              rw [show lf.getD u false = !fnB bt u by rw [HLF.out]; exact fnB_not bt (by rw [HBu.out.1]; exact hu)]
              simp
            have hlow := joinE_le HE.out.pos (fnB bt) k
            have hdk := HCm.out k hlt HBK.out
            obtain ⟨jn, hjn⟩ : ∃ jn, jn = joinE es (fnB bt) k := ⟨_, rfl⟩
            rw [hjc, ← hjn] at HJ
            rw [← hjn] at hdk
            obtain ⟨dk, hdke⟩ : ∃ dk, dk = fnD d k := ⟨_, rfl⟩
            have hjn0 : 0 ≤ jn := by rw [hjn]; exact hlow.1
            have hjnL : jn ≤ dk := by rw [hdke]; exact hdk
            have HJN := Lib.hid hjn
            have HDK := Lib.hid hdke
            have hdkT : dk ≤ 1100000 := by
              have := (stl_bnd HE.out HC.out hn hq hi.out.1.2.2.2.2.2 H0.out HT.out HT0.out HQ.out HSB.out).1 k
              rw [hdke]; exact this.2
            clear hbk hjc hlow hjn hdk hdke
            go_wp2_with fail
            refine HJ.out.mono ?_
            rintro e w2 ⟨rfl, hb2⟩
            have HI2 := Lib.hid (hi.out.below hb2)
            have hz3 := hb2.size
            obtain ⟨-, -, e1, -, -⟩ := OI.at' HI2.out.1.2.2.1 (k := k) (by rw [HI2.out.1.2.2.2.2.2.dl]; exact hlt)
            rw [show d.getD k 0 = fnD d k from rfl, ← HDK.out] at e1
            have e3 : w2.cell? ⟨b, 3, none⟩ = some (.slice (some ⟨gd, 0, none⟩) n capd) := BL.cell HI2.out.1.1 3
            clear hb2 HJ
            by_cases hpos : 0 < jn
            · have hq0 : dk.tdiv jn = dk / jn := Int.tdiv_eq_ediv_of_nonneg (by omega)
              have hq1 : 0 ≤ dk / jn := Int.ediv_nonneg (by omega) (by omega)
              have hq2 : dk / jn ≤ dk := Int.ediv_le_self _ (by omega)
              obtain ⟨mo, hmo⟩ : ∃ mo, mo = dk / jn := ⟨_, rfl⟩
              rw [← hmo] at hq0 hq1 hq2
              have HMO := Lib.hid hmo
              have hwr : IntKind.i64.wrap mo = mo := by simp (disch := omega) only [IntWalk.i64_in]
              clear hmo
              have ht2 := (times_step HE.out HCm.out hlt ht.out (by rw [← HJN.out]; exact hpos) (by rw [← HJN.out, ← HDK.out]; exact hjnL) (show mo = _ by rw [HMO.out, HJN.out, HDK.out]))
              have HTp : Hid ((tz = 0 ∨ mo < tz) → TimesR (k + 1) es d bt mo) := fun h => by rwa [if_pos h] at ht2
              have HTn : Hid (¬ (tz = 0 ∨ mo < tz) → TimesR (k + 1) es d bt tz) := fun h => by rwa [if_neg h] at ht2
              clear ht2
              go_wp2_with fail
              all_goals
                go_roundw
                case rel =>
                  first
                  | exact ⟨k + 1, tz, by omega, by go_num, rfl, by omega, by omega, HI2.out, HTn.out (by first | omega | (rename_i hh; simp at hh; omega))⟩
                  | exact ⟨k + 1, mo, by omega, by go_num, rfl, by omega, by omega, HI2.out, HTp.out (by first | omega | (rename_i hh; simp at hh; omega))⟩
                case measure => simp [intOf]; omega
            · go_wp2
              go_roundw
              case rel => exact ⟨k + 1, tz, by omega, by go_num, rfl, by omega, by omega, HI2.out, times_skip ht.out (.inr ⟨by rw [← HJN.out]; omega, by rw [← HDK.out]; omega⟩)⟩
              case measure => simp [intOf]; omega
          · rw [hbk] at p1
            have HBK := Lib.hid hbk
            clear hbk
            go_wp2
            go_roundw
            case rel => exact ⟨k + 1, tz, by omega, by go_num, rfl, by omega, by omega, hi.out, times_skip ht.out (.inl HBK.out)⟩
            case measure => simp [intOf]; omega
        · obtain rfl : k = n := by omega
          have x2 := hi.out.2.1.cell 0
          obtain ⟨h1, ⟨v, hv, hvf, hvt⟩, hst⟩ := settle_round HE.out HC.out hq hi.out.1.2.2.2.2.2 HBu.out HAny.out ht.out
          have hvq : v ≠ q := by rintro rfl; rw [HBu.out.2.1] at hvf; cases hvf
          obtain ⟨bd1, bs1⟩ := stl_bnd HE.out HC.out hn hq hi.out.1.2.2.2.2.2 H0.out HT.out HT0.out HQ.out HSB.out
          obtain ⟨bd2, bs2⟩ := stl_bnd HE.out HC.out hn hq hst H0.out HT.out HT0.out HQ.out HSB.out
          have htT : tz ≤ 80000 := by
            have := (stl_bd HE.out HC.out hq hi.out.1.2.2.2.2.2 H0.out HT.out HT0.out.1).1 v hv hvq
            have := HT0.out.2
            unfold fnD at hvt
            omega
          have HFi := Lib.hid (fire_any b eb k gl cl gd capd gs caps B ve q es lf tz d s wr HE.out hn (by omega) hi.out.1.1 hi.out.1.2.1 (by omega) he1 he2 hgg hi.out.1.2.2.1 hi.out.1.2.2.2.1 (OV.mono hi.out.2.2 (by omega)) (by omega) hi.out.1.2.2.2.2.2.dl hi.out.1.2.2.2.2.2.sl hLL
            (fun j => by have := bd1 j; omega) (fun j => by have := bs1 j; omega) (fun j => by have := bd2 j; rw [HLF.out]; omega) (fun j => by have := bs2 j; rw [HLF.out]; omega))
          have hrm : roomN k T s0 (addS (bt.map fun x => !x) tz k s) < roomN k T s0 s := room_lt HE.out HC.out hq hi.out.1.2.2.2.2.2 H0.out HT.out HT0.out.1 hst
            (fun x hx => by rw [addS_get (by rw [hi.out.1.2.2.2.2.2.sl]; exact Nat.le_refl _)]; split <;> omega)
            ⟨v, hv, by
              rw [addS_get (by rw [hi.out.1.2.2.2.2.2.sl]; exact Nat.le_refl _), if_pos ⟨hv, by have := fnB_not bt (v := v) (by rw [HBu.out.1]; exact hv); rw [hvf] at this; exact this⟩]; omega⟩
          have HRm := Lib.hid hrm
          have HSt := Lib.hid hst
          clear hrm hst bd1 bs1 bd2 bs2 hvt
          go_wp2_with fail
          refine HFi.out.mono ?_
          rintro e w3 ⟨⟨vv, rfl⟩, hST3, hD3, hS3, hF3⟩
          have HR3 : Hid (SetR b eb k q gd capd gs caps B ve es d0 s0 w (fireS (bt.map fun x => !x) tz es k d) (addS (bt.map fun x => !x) tz k s) w3) := by
            rw [HLF.out] at hD3 hS3
            exact ⟨hST3, hi.out.1.2.1.fr hF3 (by simp; omega) (by omega), hD3, hS3, hi.out.1.2.2.2.2.1.trans hF3, HSt.out⟩
          clear hST3 hD3 hS3 hF3 x2
          go_wp2
          go_roundg (roomN k T s0 (addS (bt.map fun x => !x) tz k s))
          case measure => rw [hm.out]; exact HRm.out
          case rel => exact ⟨_, _, HR3.out, rfl⟩
end Go.Proofs.YtjfggodnfoknfaaGreatDoor

namespace Go.Proofs.YtjfggodnfoknfaaGreatDoor
open Go.RowKit

theorem Mul_any (n : Nat) (hn : n ≤ 12) (w : World) : Calls Tryz.prog 166 #[.int .u64 1, .int .u64 (n : Int)] w fun e w' => e = .returned (.tuple #[.int .u64 0, .int .u64 (n : Int)]) ∧ w = w' := by
  have hc : n = 0 ∨ n = 1 ∨ n = 2 ∨ n = 3 ∨ n = 4 ∨ n = 5 ∨ n = 6 ∨ n = 7 ∨ n = 8 ∨ n = 9 ∨ n = 10 ∨ n = 11 ∨ n = 12 := by omega
  rcases hc with rfl | rfl | rfl | rfl | rfl | rfl | rfl | rfl | rfl | rfl | rfl | rfl | rfl
  all_goals
    go_enter Tryz.func166, Tryz.ntmps166
    go_wp2
    go_ret2
    exact ⟨rfl, rfl⟩
end Go.Proofs.YtjfggodnfoknfaaGreatDoor

namespace Go.Proofs.YtjfggodnfoknfaaGreatDoor
open Go.RowKit

/-- m ones of -1, and zeros behind them. -/
def repL (n m : Nat) : List Value := List.replicate m (.int .i64 (-1)) ++ List.replicate (n - m) (.int .i64 0)
theorem repL_splice {n m : Nat} : splice (repL n m) m (List.replicate (Nat.min m (n - m)) (.int .i64 (-1))) = repL n (m + Nat.min m (n - m)) := by
  have hk : Nat.min m (n - m) ≤ n - m := Nat.min_le_right _ _
  unfold splice repL
  generalize Nat.min m (n - m) = c at hk
  rw [List.take_left' (by simp), List.replicate_append_replicate.symm, List.append_assoc]
  congr 2
  rw [List.drop_append, List.drop_eq_nil_of_le (by simp), List.nil_append, List.drop_replicate]
  congr 1
  simp
  omega
theorem Repeat_any (va : Value) (n : Nat) (hn1 : 1 ≤ n) (hn : n ≤ 12) (w : World) (ha : RI w va [-1]) :
    Calls Tryz.prog 138 #[va, .int .i64 (n : Int)] w fun e w' => e = .returned (.slice (some ⟨w.heap.size, 0, none⟩) n n) ∧ w.heap.size < w'.heap.size ∧ BL w' w.heap.size 3 (repL n n) ∧ Below w.heap.size w w' := by
  obtain ⟨A, c, rfl, hlc, hc, hcell⟩ := ha.open_
  obtain ⟨ad, z, rfl, had, hz, hcl⟩ := hcell 0 (by simp)
  have hz0 : z = -1 := by have := hz.out; simpa using this.symm
  subst hz0
  have hcl0 : w.cell? ad = some (.int .i64 (-1)) := by rw [← hcl]; congr 1
  clear hcell ha hz hlc hc
  have HM := Lib.hid (Mul_any n hn w)
  go_enter Tryz.func138, Tryz.ntmps138
  have hmk := run_make_row' (P := Tryz.prog) 25 3 (.int .i64 0) 8 Tryz.underlying25 int_info rfl .i64 .i64 n (by omega) (by omega)
  have HG : Hid (BL (w.alloc (.cells (madeCells #[Value.int .i64 0] n) 3)) w.heap.size 3 (repL n 0)) := by
    have := BL.new' w (madeCells #[Value.int .i64 0] n) 3
    rwa [show (madeCells #[Value.int .i64 0] n).toList = repL n 0 by simpa [repL] using toList_madeCells_one (.int .i64 0) n] at this
  have hB : Hid (Below w.heap.size w (w.alloc (.cells (madeCells #[Value.int .i64 0] n) 3))) := below_alloc w _
  have hc2 : (w.alloc (.cells (madeCells #[Value.int .i64 0] n) 3)).cell? ad = some (.int .i64 (-1)) := (hB.out.cell had).trans hcl0
  obtain ⟨W1, hW1⟩ : ∃ W1, W1 = w.alloc (.cells (madeCells #[Value.int .i64 0] n) 3) := ⟨_, rfl⟩
  rw [← hW1] at HG hB hc2
  obtain ⟨W2, hW2⟩ : ∃ W2, W2 = W1.setRow w.heap.size ((repL n 0).toArray.toList.take 0 ++ [Value.int .i64 (-1)] ++ (repL n 0).toArray.toList.drop (0 + [Value.int .i64 (-1)].length)).toArray := ⟨_, rfl⟩
  have hcp := run_copy_row (P := Tryz.prog) W1 25 25 3 3 w.heap.size 0 n n ad 1 c (repL n 0).toArray 3 [.int .i64 (-1)] Tryz.underlying25 (by kernel_rfl) HG.out
    (by show 1 = Nat.min 1 n; exact (Nat.min_eq_left hn1).symm) (fun j v hj => by
      have : j = 0 := by
        rcases j with _ | j
        · rfl
        · simp at hj
      subst this
      have hv : v = .int .i64 (-1) := by simpa using hj.symm
      rw [hv, show ad.add 0 = ad from rfl]
      exact hc2) (by simp [repL]; omega) (by simp [Value.oneCell'])
  rw [← hW2] at hcp
  have HG2 : Hid (BL W2 w.heap.size 3 (repL n 1)) := by
    have h := setRow_heap W1 w.heap.size (repL n 0).toArray ((repL n 0).toArray.toList.take 0 ++ [Value.int .i64 (-1)] ++ (repL n 0).toArray.toList.drop (0 + [Value.int .i64 (-1)].length)).toArray 3 _ HG.out
    rw [← hW2] at h
    have e : (repL n 0).toArray.toList.take 0 ++ [Value.int .i64 (-1)] ++ (repL n 0).toArray.toList.drop (0 + [Value.int .i64 (-1)].length) = repL n 1 := by
      simp [repL]
    rw [e] at h
    exact h
  have HB2 : Hid (Below w.heap.size w W2) := by rw [hW2]; exact below_setRow hB.out (Nat.le_refl _) _
  have HW1 := Lib.hid hW1
  clear hc2 hW2 hW1
  have hmk1 := hmk w
  rw [← HW1.out] at hmk1
  clear hmk
  go_wp2_with (first
    | (go_at_call 166; refine HM.out.mono ?_; rintro e w1 ⟨rfl, rfl⟩))
  have HZ : Hid (w.heap.size < W2.heap.size) := HG2.out.lt
  clear hcp hmk1 hcl0 HW1 HG hB
  go_loopw [8] (fun i wr => ∃ m : Nat, 1 ≤ m ∧ m ≤ n ∧ i = .int .i64 (m : Int) ∧ Hid (BL wr w.heap.size 3 (repL n m)) ∧ Hid (Below w.heap.size w wr)) (fun i _ => n - (intOf i).toNat)
  case atStart => exact ⟨1, Nat.le_refl _, hn1, rfl, HG2.out, HB2.out⟩
  case round =>
    obtain ⟨m, hm1, hm, rfl, hg, hb⟩ := hrel
    by_cases hlt : m < n
    · obtain ⟨cc, hcc⟩ : ∃ cc, cc = Nat.min m (n - m) := ⟨_, rfl⟩
      have hc1 : 1 ≤ cc ∧ m + cc ≤ n ∧ cc ≤ m := by rw [hcc]; simp only [Nat.min_def]; split <;> omega
      have hsp := repL_splice (n := n) (m := m)
      rw [← hcc] at hsp
      have HSp := Lib.hid hsp
      have HCC := Lib.hid hcc
      have HCl : Hid (∀ j v, (List.replicate cc (Value.int .i64 (-1)))[j]? = some v → wr.cell? ((⟨w.heap.size, 0, none⟩ : Addr).add j) = some v) := fun j v hj => by
        obtain ⟨hj1, hj2⟩ := List.getElem?_eq_some_iff.1 hj
        rw [List.length_replicate] at hj1
        rw [List.getElem_replicate] at hj2
        have h := hg.out.cell j
        have ea : ((⟨w.heap.size, 0, none⟩ : Addr).add j) = ⟨w.heap.size, j, none⟩ := by
          simp [Addr.add]
          exact fun h => h.symm
        rw [ea, h, ← hj2]
        unfold repL
        rw [List.getElem?_append_left (by simp; omega), List.getElem?_replicate, if_pos (by omega)]
      have hwr : IntKind.i64.wrap ((m : Int) + (cc : Int)) = (m : Int) + (cc : Int) := by simp (disch := omega) only [IntWalk.i64_in]
      clear hsp hcc
      go_wp2_with fail
      go_region_law (refine step_copy_splice rfl (.tmp 41) (.tmp 44) 25 25 rfl 3 Tryz.underlying25 (by kernel_rfl) (if n = m then some ⟨w.heap.size, 0, none⟩ else some ⟨w.heap.size, m, none⟩) (some ⟨w.heap.size, 0, none⟩) (n - m) (n - m) m n (by simp [Act.eval, Act.put]) (by simp [Act.eval, Act.put]) w.heap.size m (repL n m) 3 hg.out (List.replicate cc (.int .i64 (-1))) (by rw [List.length_replicate]; exact HCC.out) (fun _ => ⟨if_neg (by omega), _, rfl, HCl.out⟩) (by simp [repL]; omega) (by simp [Value.oneCell']) w.heap.size w hb.out.drew (Nat.le_refl _) ?_; intro w4 hg4 hb4; have HB4 := Lib.hid hb4; clear hb4; rw [HSp.out] at hg4; simp only [List.length_replicate])
      go_wp2
      go_roundw
      case rel =>
        first
        | exact ⟨m + cc, by omega, by omega, by first | omega | go_num, hg4.out⟩
        | exact ⟨m + cc, by omega, by omega, by go_num, hg4.out, HB4.out⟩
      case measure => simp [intOf]; omega
    · obtain rfl : m = n := by omega
      go_wp2
      go_ret
      exact ⟨rfl, hg.out.lt, hg.out, hb.out⟩
end Go.Proofs.YtjfggodnfoknfaaGreatDoor

namespace Go.Proofs.YtjfggodnfoknfaaGreatDoor
open Go.RowKit

def natV (Q : List Nat) : List Value := Q.map fun (u : Nat) => Value.int .i64 (u : Int)
/-- v is a slice in block g that reads as Q. -/
def QI (w : World) (g : Nat) (v : Value) (Q : List Nat) : Prop :=
  ∃ off cap cur, v = .slice (some ⟨g, off, none⟩) Q.length cap ∧ w.heap[g]? = some (.cells cur 3 (0, 0)) ∧ off + cap ≤ cur.size ∧ Q.length ≤ cap ∧ ∀ j u, (natV Q)[j]? = some u → cur[off + j]? = some u
theorem QI.keep {w w' : World} {g : Nat} {v : Value} {Q : List Nat} (h : QI w g v Q) (hk : w'.heap[g]? = w.heap[g]?) : QI w' g v Q := by
  obtain ⟨off, cap, cur, h1, h2, h3⟩ := h
  exact ⟨off, cap, cur, h1, hk.trans h2, h3⟩
theorem QI.lt {w : World} {g : Nat} {v : Value} {Q : List Nat} (h : QI w g v Q) : g < w.heap.size := by
  obtain ⟨off, cap, cur, h1, h2, h3⟩ := h
  exact lt_of_block h2
theorem QI.below {w w' : World} {g : Nat} {v : Value} {Q : List Nat} (h : QI w g v Q) (hb : Below w.heap.size w w') : QI w' g v Q := h.keep (hb.block g h.lt)
theorem QI.head {w : World} {g u : Nat} {v : Value} {Q : List Nat} (h : QI w g v (u :: Q)) : ∃ off cap, v = .slice (some ⟨g, off, none⟩) (Q.length + 1) cap ∧ Q.length + 1 ≤ cap ∧ w.cell? ⟨g, off, none⟩ = some (.int .i64 (u : Int)) ∧
    QI w g (.slice (if cap = 1 then some ⟨g, off, none⟩ else some ⟨g, off + 1, none⟩) Q.length (cap - 1)) Q := by
  obtain ⟨off, cap, cur, h1, h2, h3, h4, h5⟩ := h
  have h0 := h5 0 _ rfl
  refine ⟨off, cap, by simpa using h1, by simpa using h4, by simpa [World.cell?, h2] using h0, ?_⟩
  simp only [List.length_cons] at h4
  by_cases c : cap = 1
  · subst c
    have hq : Q = [] := List.eq_nil_of_length_eq_zero (by omega)
    subst hq
    exact ⟨off, 0, cur, by simp, h2, by omega, by simp, fun j u hj => by simp [natV] at hj⟩
  · exact ⟨off + 1, cap - 1, cur, by rw [if_neg c], h2, by omega, by omega, fun j u hj => by
      have := h5 (j + 1) u (by simpa [natV] using hj)
      rwa [show off + 1 + j = off + (j + 1) by omega]⟩
theorem natV_len (Q : List Nat) : (natV Q).length = Q.length := by simp [natV]
theorem QI.append {w : World} {g : Nat} {v : Value} {Q : List Nat} (h : QI w g v Q) (hl : Q.length ≤ 1000) (ty : TypeId) (a : Addr) (u : Nat) (ha : w.cell? a = some (.int .i64 (u : Int))) :
    ∃ v' w' g', (Builtin.append_ #[25, 25] ty #[v, .slice (some a) 1 1]).run Tryz.prog w = .ok v' w' ∧ QI w' g' v' (Q ++ [u]) ∧ (g' = g ∨ w.heap.size ≤ g') ∧ w.grownBy w' (some g) := by
  obtain ⟨off, cap, cur, rfl, h2, h3, h4, h5⟩ := h
  obtain ⟨i0, hi, hz0, hz1, hz2⟩ := info_parts int_info
  have hn : ∀ (j : Nat) (x : Value), ([Value.int .i64 (u : Int)])[j]? = some x → w.cell? (a.add j) = some x := fun j x hj => by
    rcases j with _ | j
    · have hx : x = .int .i64 (u : Int) := by simpa using hj.symm
      rw [hx, ← ha]
      congr 1
    · simp at hj
  by_cases hr : Q.length + 1 ≤ cap
  · have hin : off + Q.length < cur.size := by omega
    have e := run_append_room_cells (P := Tryz.prog) w 25 ty 3 i0 Tryz.underlying25 hi g off Q.length cap a 1 1 [.int .i64 (u : Int)] (by simp [hz1]) hn (by simp [Value.oneCell']) hr
      (fun j hj => by
        have : j = 0 := by simpa using hj
        subst this
        simp [World.cell?, h2, hz1, hin]) (fun j hj => by simp [World.frozen?, h2])
    refine ⟨_, _, g, e, ?_, .inl rfl, ?_⟩
    · have hs : w.setCells g (off + Q.length * i0.size) [.int .i64 (u : Int)] = w.setRow g (cur.setIfInBounds (off + Q.length) (.int .i64 (u : Int))) := by
        rw [hz1, Nat.mul_one]
        exact setCell_eq_setRow w g (off + Q.length) cur _ _ _ h2
      rw [hs]
      refine ⟨off, cap, _, by simp, setRow_heap w g cur _ _ _ h2, by simpa using h3, by simpa using hr, fun j x hj => ?_⟩
      rw [Array.getElem?_setIfInBounds]
      rcases Nat.lt_or_ge j Q.length with c | c
      · rw [if_neg (by omega)]
        refine h5 j x ?_
        rw [← hj]
        simp only [natV, List.map_append]
        rw [List.getElem?_append_left (by simpa using c)]
      · have hj2 : j < (natV (Q ++ [u])).length := (List.getElem?_eq_some_iff.1 hj).1
        rw [natV_len] at hj2
        have : j = Q.length := by simp at hj2; omega
        subst this
        rw [if_pos rfl, if_pos hin, ← hj]
        simp [natV]
    · rw [hz1, Nat.mul_one]
      exact ⟨rfl, rfl, rfl, by simp [World.setCells], fun k _ hk => heap_setCell_other w ⟨g, off + Q.length, none⟩ k _ (by simpa using hk)⟩
  · obtain ⟨v', w', e, how, hgr⟩ := run_append_arg_grows (P := Tryz.prog) w 25 ty 3 i0 _ 1 8 Tryz.underlying25 hi hz0 hz1 hz2 rfl (by decide) ⟨g, off, none⟩ Q.length cap (natV Q) (by simp [natV]) (fun j x hj => by
        have := h5 j x hj
        show w.cell? ((⟨g, off, none⟩ : Addr).add j) = _
        have ea : ((⟨g, off, none⟩ : Addr).add j) = ⟨g, off + j, none⟩ := by unfold Addr.add; split <;> simp_all
        rw [ea]
        simpa [World.cell?, h2] using this) a 1 1 [.int .i64 (u : Int)] (by simp) hn (by omega) (by unfold maxLen; omega) (by omega)
    rcases how.2 with ⟨_, hz⟩ | ⟨g', cap', cur', hv, hg', hh, hc, _, hcs, htk⟩
    · omega
    · refine ⟨v', w', g', e, ⟨0, cap', cur', by simpa using hv, hh, by omega, by simpa using hc, fun j x hj => ?_⟩, .inr hg', ⟨hgr.1, hgr.2, hgr.3, hgr.4, fun k hk _ => hgr.5 k hk (by simp)⟩⟩
      have e2 : natV (Q ++ [u]) = natV Q ++ [.int .i64 (u : Int)] := by simp [natV]
      rw [e2, ← htk] at hj
      obtain ⟨hj1, hj2⟩ := List.getElem?_eq_some_iff.1 hj
      rw [List.getElem_take] at hj2
      rw [Nat.zero_add, ← hj2]
      simp
end Go.Proofs.YtjfggodnfoknfaaGreatDoor

