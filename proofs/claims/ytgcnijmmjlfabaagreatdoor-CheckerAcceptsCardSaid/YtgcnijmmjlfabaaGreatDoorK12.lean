/- The checker's graph in the making: its memory; what an edge adds to weights and valences. -/
import Derived.Test.YtgcnijmmjlfabaaGreatDoorK07
set_option maxRecDepth 100000
set_option maxHeartbeats 16000000
namespace Go.Proofs.YtgcnijmmjlfabaaGreatDoor
open Go.RowKit Go.Shelf

theorem madeCells_one (z : Value) (n : Nat) : madeCells #[z] n = (List.replicate n z).toArray := by
  apply Array.ext
  · simp [madeCells]
  · intro i h1 h2
    simp [madeCells, Nat.mod_one]
theorem map_range_set {α : Type} {n u : Nat} (f : Nat → α) (z : α) : ((List.range n).map f).set u z = (List.range n).map fun k => if k = u then z else f k := by
  apply List.ext_getElem?
  intro i
  rw [List.getElem?_set, List.getElem?_map, List.getElem?_map, List.length_map, List.length_range]
  by_cases hi : i < n
  · rw [List.getElem?_range hi]
    by_cases e : u = i
    · subst e; simp [hi]
    · have e' : ¬ i = u := fun h => e h.symm
      rw [if_neg e]; simp [e']
  · rw [List.getElem?_eq_none (by simpa using hi)]
    split
    · split
      · omega
      · rfl
    · rfl
theorem BL.ne_type {w : World} {a b : Nat} {T T' : TypeId} {us us' : List Value} (h : BL w a T us) (h' : BL w b T' us') (hne : T ≠ T') : a ≠ b := by
  rintro rfl
  unfold BL at h h'
  rw [h] at h'
  simp only [Option.some.injEq, Obj.cells.injEq] at h'
  exact hne h'.2.1
structure OM (W : World) (B n bx bj bv : Nat) (rb : List Nat) (M : Nat → Nat → Int) (V : Nat → Int) : Prop where
  x : BL W bx 72 [.int .i64 (n : Int), .slice (some ⟨bj, 0, none⟩) n n, .slice (some ⟨bv, 0, none⟩) n n]
  j : BL W bj 42 (rb.map (fun b => .slice (some ⟨b, 0, none⟩) n n) ++ List.replicate (n - rb.length) (.slice none 0 0))
  v : BL W bv 3 ((List.range n).map fun u => .int .i64 (V u))
  r : ∀ i b, rb[i]? = some b → BL W b 3 ((List.range n).map fun u => .int .i64 (M i u))
  nd : (bv :: rb).Nodup
  lx : B ≤ bx
  lj : B ≤ bj
  lr : ∀ b ∈ bv :: rb, B ≤ b
theorem OM.bel {W W' : World} {B n bx bj bv : Nat} {rb : List Nat} {M : Nat → Nat → Int} {V : Nat → Int} (h : OM W B n bx bj bv rb M V) (hb : Below W.heap.size W W') : OM W' B n bx bj bv rb M V :=
  ⟨h.x.bel hb, h.j.bel hb, h.v.bel hb, fun i b hi => (h.r i b hi).bel hb, h.nd, h.lx, h.lj, h.lr⟩
theorem OM.setM {W : World} {B n bx bj bv : Nat} {rb : List Nat} {M : Nat → Nat → Int} {V : Nat → Int} (h : OM W B n bx bj bv rb M V) {a b u : Nat} (ha : rb[a]? = some b) (z : Int) :
    OM (W.setCell ⟨b, u, none⟩ (.int .i64 z)) B n bx bj bv rb (fun i k => if i = a ∧ k = u then z else M i k) V := by
  have hr := h.r a b ha
  have hmem := List.mem_of_getElem? ha
  refine ⟨h.x.set_other (h.x.ne_type hr (by decide)) _, h.j.set_other (h.j.ne_type hr (by decide)) _, h.v.set_other ?_ _, fun i c hi => ?_, h.nd, h.lx, h.lj, h.lr⟩
  · intro e
    have := (List.nodup_cons.1 h.nd).1
    exact this (by rw [show bv = b from e]; exact hmem)
  · by_cases e : i = a
    · subst e
      obtain rfl : b = c := Option.some.inj (ha.symm.trans hi)
      have := hr.set u (.int .i64 z)
      rw [map_range_set] at this
      have e2 : (fun k => if k = u then Value.int .i64 z else .int .i64 (M i k)) = fun k => Value.int .i64 (if i = i ∧ k = u then z else M i k) := by
        funext k
        by_cases hk : k = u
        · rw [if_pos hk, if_pos ⟨rfl, hk⟩]
        · rw [if_neg hk, if_neg (fun h => hk h.2)]
      rw [e2] at this
      exact this
    · have hne : c ≠ b := by
        intro hc
        subst hc
        have hnd := (List.nodup_cons.1 h.nd).2
        obtain ⟨h1, e1⟩ := List.getElem?_eq_some_iff.1 hi
        obtain ⟨h2, e2⟩ := List.getElem?_eq_some_iff.1 ha
        exact e ((List.getElem_inj hnd).1 (e1.trans e2.symm))
      have := (h.r i c hi).set_other (a := ⟨b, u, none⟩) hne (.int .i64 z)
      have e2 : (fun k => Value.int .i64 (M i k)) = fun k => Value.int .i64 (if i = a ∧ k = u then z else M i k) := by
        funext k; rw [if_neg (fun h => e h.1)]
      rw [e2] at this
      exact this
theorem OM.setV {W : World} {B n bx bj bv : Nat} {rb : List Nat} {M : Nat → Nat → Int} {V : Nat → Int} (h : OM W B n bx bj bv rb M V) (u : Nat) (z : Int) :
    OM (W.setCell ⟨bv, u, none⟩ (.int .i64 z)) B n bx bj bv rb M (fun k => if k = u then z else V k) := by
  refine ⟨h.x.set_other (h.x.ne_type h.v (by decide)) _, h.j.set_other (h.j.ne_type h.v (by decide)) _, ?_, fun i c hi => (h.r i c hi).set_other ?_ _, h.nd, h.lx, h.lj, h.lr⟩
  · have := h.v.set u (.int .i64 z)
    rw [map_range_set] at this
    have e2 : (fun k => if k = u then Value.int .i64 z else .int .i64 (V k)) = fun k => Value.int .i64 (if k = u then z else V k) := by
      funext k; split <;> rfl
    rw [e2] at this
    exact this
  · rintro rfl
    exact (List.nodup_cons.1 h.nd).1 (List.mem_of_getElem? hi)
/-- One row more. -/
theorem OM.push {W : World} {B n bx bj bv : Nat} {rb : List Nat} {V : Nat → Int} (h : OM W B n bx bj bv rb (fun _ _ => 0) V) (hl : rb.length < n) (hB : B ≤ W.heap.size) :
    OM ((W.alloc (.cells (madeCells #[.int .i64 0] n) 3)).setCell ⟨bj, rb.length, none⟩ (.slice (some ⟨W.heap.size, 0, none⟩) n n)) B n bx bj bv (rb ++ [W.heap.size]) (fun _ _ => 0) V := by
  have hn := BL.new' W (madeCells #[.int .i64 0] n) 3
  rw [madeCells_one] at hn ⊢
  have hjn : bj ≠ W.heap.size := by have := h.j.lt; omega
  have hxj := h.x.ne_type h.j (by decide)
  refine ⟨(h.x.alloc _).set_other hxj _, ?_, (h.v.alloc _).set_other (fun e => h.j.ne_type h.v (by decide) e.symm) _, fun i c hi => ?_, ?_, h.lx, h.lj, ?_⟩
  · have := (h.j.alloc (.cells (List.replicate n (.int .i64 0)).toArray 3)).set rb.length (.slice (some ⟨W.heap.size, 0, none⟩) n n)
    rw [List.set_append, if_neg (by simp), List.length_map, Nat.sub_self, show n - rb.length = (n - (rb ++ [W.heap.size]).length) + 1 by simp; omega, List.replicate_succ, List.set_cons_zero] at this
    simpa [BL] using this
  · by_cases e : i < rb.length
    · rw [List.getElem?_append_left e] at hi
      refine ((h.r i c hi).alloc _).set_other ?_ _
      exact fun e => h.j.ne_type (h.r i c hi) (by decide) e.symm
    · rw [List.getElem?_append_right (by omega)] at hi
      obtain ⟨h1, h2⟩ := List.getElem?_eq_some_iff.1 hi
      simp only [List.length_singleton] at h1
      have hc : W.heap.size = c := by rw [← h2]; simp
      subst hc
      have := hn.set_other (a := ⟨bj, rb.length, none⟩) (fun e => hjn e.symm) (.slice (some ⟨W.heap.size, 0, none⟩) n n)
      have e3 : (List.replicate n (Value.int .i64 0)) = (List.range n).map fun _ => Value.int .i64 0 := by
        rw [List.map_const', List.length_range]
      rw [List.toList_toArray, e3] at this
      rw [e3]
      exact this
  · rw [show bv :: (rb ++ [W.heap.size]) = (bv :: rb) ++ [W.heap.size] from rfl]
    rw [List.nodup_append]
    refine ⟨h.nd, by simp, fun x hx y hy => ?_⟩
    rw [List.mem_singleton.1 hy]
    intro e
    rcases List.mem_cons.1 hx with hx | hx
    · have := h.v.lt; omega
    · obtain ⟨i, hi, rfl⟩ := List.mem_iff_getElem.1 hx
      have := (h.r i _ (List.getElem?_eq_getElem hi)).lt
      omega
  · intro b hb
    rcases List.mem_cons.1 hb with hb | hb
    · exact h.lr b (by simp [hb])
    · rcases List.mem_append.1 hb with hb | hb
      · exact h.lr b (by simp [hb])
      · rw [List.mem_singleton.1 hb]; exact hB
theorem addr_add (b k : Nat) : (⟨b, 0, none⟩ : Addr).add k = ⟨b, k, none⟩ := by
  unfold Addr.add
  split
  · rename_i h; rw [h]
  · simp
theorem BL.ri {w : World} {b n : Nat} {f : Nat → Int} (h : BL w b 3 ((List.range n).map fun u => .int .i64 (f u))) (hn : n ≤ 100000) : RI w (.slice (some ⟨b, 0, none⟩) n n) ((List.range n).map f) := by
  have := RI.mk_ (w := w) (A := some ⟨b, 0, none⟩) (c := n) (zs := (List.range n).map f) (by simp) (by simp; omega) fun k z hk => ?_
  · simpa using this
  · rw [List.getElem?_map] at hk
    obtain ⟨u, hu, rfl⟩ := Option.map_eq_some_iff.1 hk
    refine ⟨_, rfl, h.lt, ?_⟩
    have hc := h.cell k
    rw [List.getElem?_map, hu] at hc
    rw [addr_add]
    simpa using hc
theorem OM.gx {W : World} {B n bx bj bv : Nat} {rb : List Nat} {es : List Tri} (h : OM W B n bx bj bv rb (wgt es) fun v => valK es v n) (hl : rb.length = n) (hn : n ≤ 12) : GX W (.pointer (some ⟨bx, 0, none⟩)) n es := by
  refine ⟨bx, _, _, rfl, h.x, ?_, h.v.ri (by omega)⟩
  refine ⟨rb.map (fun b => .slice (some ⟨b, 0, none⟩) n n), ?_, by simp [joinsL, hl], fun k z hk => ?_⟩
  · have hj := h.j
    rw [hl, Nat.sub_self, List.replicate_zero, List.append_nil] at hj
    refine ⟨some ⟨bj, 0, none⟩, n, by simp [hl], by simp [hl], by simp [hl]; omega, fun k hk => ⟨_, rfl, hj.lt, ?_⟩⟩
    have := hj.cell k
    rw [addr_add]
    simpa using this
  · unfold joinsL at hk
    rw [List.getElem?_map] at hk
    obtain ⟨u, hu, rfl⟩ := Option.map_eq_some_iff.1 hk
    obtain ⟨h1, h2⟩ := List.getElem?_eq_some_iff.1 hu
    rw [List.getElem_range] at h2
    subst h2
    rw [List.length_range] at h1
    have hb : rb[k]? = some rb[k] := List.getElem?_eq_getElem (by omega)
    exact ⟨_, by rw [List.getElem?_map, hb]; rfl, (h.r k _ hb).ri (by omega)⟩
/-- What one edge adds to a valence. -/
theorem sum_split {n : Nat} (f g : Nat → Int) : (sumN n fun u => f u + g u) = sumN n f + sumN n g := by
  induction n with
  | zero => rfl
  | succ n ih => simp only [sumN, ih]; omega
theorem valK_snoc {es : List Tri} {t : Tri} {n : Nat} (h : 0 ≤ t.1 ∧ t.1 < n ∧ 0 ≤ t.2.1 ∧ t.2.1 < n) (v : Nat) : valK (es ++ [t]) v n = valK es v n + if t.1 = t.2.1 then 0 else if t.1 = v ∨ t.2.1 = v then t.2.2 else 0 := by
  have e : (fun u => if u = v then 0 else wgt (es ++ [t]) u v) = fun u => (if u = v then 0 else wgt es u v) + ew t v u * 1 := by
    funext u
    by_cases hu : u = v
    · rw [if_pos hu, if_pos hu, hu, ew_self]; rfl
    · rw [if_neg hu, if_neg hu, wgt_snoc, ew_sym]; omega
  unfold valK
  rw [e, sum_split, sum_ew h (fun _ => 1) v]
  congr 1
  by_cases a : t.1 = t.2.1
  · rw [if_pos a, if_pos a]
  · rw [if_neg a, if_neg a]
    by_cases b : t.1 = v
    · rw [if_pos b, if_pos (.inl b)]; omega
    · rw [if_neg b]
      by_cases c : t.2.1 = v
      · rw [if_pos c, if_pos (.inr c)]; omega
      · rw [if_neg c, if_neg (by omega)]
/-- Nothing joins the ends of an edge that comes behind. -/
theorem wgt_fresh {n : Nat} {es : List Tri} {t : Tri} (hE : Edges n (es ++ [t])) {v u : Nat} (h : (t.1 = v ∧ t.2.1 = u) ∨ (t.1 = u ∧ t.2.1 = v)) : wgt es v u = 0 := by
  have ho := (List.pairwise_append.1 hE.ord).2.2
  have hlo := hE.lo
  have ht := hlo t (by simp)
  have : ∀ l : List Tri, (∀ s ∈ l, LexLt s t) → (∀ s ∈ l, s.1 ≤ s.2.1) → wgt l v u = 0 := by
    intro l
    induction l with
    | nil => intro _ _; rfl
    | cons s l ih =>
      intro h1 h2
      have a1 := h1 s (by simp)
      have a2 := h2 s (by simp)
      unfold LexLt at a1
      rw [wgt, ih (fun x hx => h1 x (List.mem_cons_of_mem _ hx)) fun x hx => h2 x (List.mem_cons_of_mem _ hx)]
      unfold ew
      rw [if_neg (by omega)]; rfl
  exact this es (fun s hs => ho s hs t (by simp)) fun s hs => (hlo s (by simp [hs])).2.1
theorem wgt_put {n : Nat} {es : List Tri} {t : Tri} (hE : Edges n (es ++ [t])) (hne : t.1 ≠ t.2.1) (v u : Nat) :
    wgt (es ++ [t]) v u = if v = t.2.1.toNat ∧ u = t.1.toNat then t.2.2 else if v = t.1.toNat ∧ u = t.2.1.toNat then t.2.2 else wgt es v u := by
  have ht := hE.lo t (by simp)
  rw [wgt_snoc]
  by_cases h : (t.1 = v ∧ t.2.1 = u) ∨ (t.1 = u ∧ t.2.1 = v)
  · rw [wgt_fresh hE h]
    have : ew t v u = t.2.2 := by unfold ew; rw [if_pos ⟨hne, h⟩]
    rw [this]
    rcases h with h | h
    · rw [if_neg (by omega), if_pos (by omega)]; omega
    · rw [if_pos (by omega)]; omega
  · have : ew t v u = 0 := by unfold ew; rw [if_neg (fun hh => h hh.2)]
    rw [this, if_neg (by omega), if_neg (by omega)]; omega
end Go.Proofs.YtgcnijmmjlfabaaGreatDoor

