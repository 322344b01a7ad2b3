/- Distances by a queue. No program in sight.
   What holds while distances looks at one vertex's neighbours. -/
import Derived.Test.YtjfggodnfoknfaaGreatDoorM09
set_option maxRecDepth 100000
set_option maxHeartbeats 16000000
namespace Go.Proofs.YtjfggodnfoknfaaGreatDoor

def un (n : Nat) (o : List Int) : Nat := countN n fun v => decide (o.getD v 0 < 0)
/-- One neighbour of v. -/
def bfsT (v : Nat) (s : List Int × List Nat) (x : Int × Int) : List Int × List Nat :=
  if s.1.getD x.1.toNat 0 < 0 then (s.1.set x.1.toNat (s.1.getD v 0 + 1), s.2 ++ [x.1.toNat]) else s
def bfsI (v : Nat) (l : List (Int × Int)) (s : List Int × List Nat) : List Int × List Nat := l.foldl (bfsT v) s
theorem bfsI_snoc (v : Nat) (l : List (Int × Int)) (x : Int × Int) (s : List Int × List Nat) : bfsI v (l ++ [x]) s = bfsT v (bfsI v l s) x := by simp [bfsI]
/-- What holds of distances o and a queue Q; vertex c is at work, and its neighbours in l are seen. -/
structure Bf (n q : Nat) (es : List Tri) (o : List Int) (Q : List Nat) (c : Option Nat) (l : List (Int × Int)) : Prop where
  len : o.length = n
  q0 : o.getD q 0 = 0
  lo : ∀ v, v < n → -1 ≤ o.getD v 0
  inQ : ∀ u ∈ Q, u < n ∧ 0 ≤ o.getD u 0
  closed : ∀ p, p < n → 0 ≤ o.getD p 0 → p ∉ Q → c ≠ some p → ∀ x ∈ linksL es p, 0 ≤ o.getD x.1.toNat 0 ∧ o.getD x.1.toNat 0 ≤ o.getD p 0 + 1
  seen : ∀ p, c = some p → p < n ∧ 0 ≤ o.getD p 0 ∧ (∀ x ∈ l, 0 ≤ o.getD x.1.toNat 0 ∧ o.getD x.1.toNat 0 ≤ o.getD p 0 + 1) ∧ (∀ a, a < n → o.getD a 0 ≤ o.getD p 0 + 1) ∧ (∀ a ∈ Q, o.getD p 0 ≤ o.getD a 0) ∧ o.getD p 0 + 1 + 2 * un n o + Q.length ≤ 2 * n - 1
  mono : Q.Pairwise fun a b => o.getD a 0 ≤ o.getD b 0
  head : ∀ h r, Q = h :: r → ∀ a, a < n → o.getD a 0 ≤ o.getD h 0 + 1
  hi : ∀ v, v < n → o.getD v 0 + 2 * un n o + Q.length ≤ 2 * n - 1
  par : ∀ a, a < n → 0 ≤ o.getD a 0 → a ≠ q → ∃ p, p < n ∧ 0 ≤ o.getD p 0 ∧ o.getD a 0 = o.getD p 0 + 1 ∧ ∃ x ∈ linksL es p, x.1.toNat = a
theorem getD_set_int (l : List Int) (i j : Nat) (x : Int) (hi : i < l.length) : (l.set i x).getD j 0 = if i = j then x else l.getD j 0 := by
  rw [List.getD_eq_getElem?_getD, List.getElem?_set]
  by_cases e : i = j
  · subst e; rw [if_pos rfl, if_pos rfl, if_pos hi]; rfl
  · rw [if_neg e, if_neg e, List.getD_eq_getElem?_getD]
theorem countN_drop {n : Nat} {p p' : Nat → Bool} {x : Nat} (hx : x < n) (h1 : p x = true) (h2 : p' x = false) (h : ∀ v, v < n → v ≠ x → p' v = p v) : countN n p' + 1 = countN n p := by
  induction n with
  | zero => omega
  | succ n ih =>
    simp only [countN]
    by_cases e : x = n
    · subst e
      have : countN x p' = countN x p := by
        have : ∀ m, m ≤ x → countN m p' = countN m p := fun m hm => by
          induction m with
          | zero => rfl
          | succ m ihm => simp only [countN]; rw [ihm (by omega), h m (by omega) (by omega)]
        exact this x (Nat.le_refl _)
      rw [h1, h2, this]; simp
    · have := ih (by omega) fun v hv hne => h v (by omega) hne
      rw [h n (by omega) (fun e' => e e'.symm)]
      omega
theorem bf_step {n q : Nat} {es : List Tri} {o : List Int} {Q : List Nat} {v : Nat} {l : List (Int × Int)} {x : Int × Int} (hE : Edges n es) (h : Bf n q es o Q (some v) l) (hx : x ∈ linksL es v) (hq : q < n) :
    Bf n q es (bfsT v (o, Q) x).1 (bfsT v (o, Q) x).2 (some v) (l ++ [x]) := by
  obtain ⟨hv, hv0, hs1, hs2, hs3, hs4⟩ := h.seen v rfl
  have hxb := links_mem hE hv hx
  have hxn : x.1.toNat < n := by omega
  unfold bfsT
  dsimp only
  by_cases c : o.getD x.1.toNat 0 < 0
  · rw [if_pos c]
    dsimp only
    have hg : ∀ j, (o.set x.1.toNat (o.getD v 0 + 1)).getD j 0 = if x.1.toNat = j then o.getD v 0 + 1 else o.getD j 0 := fun j => getD_set_int _ _ _ _ (by rw [h.len]; exact hxn)
    have hge : ∀ j, o.getD j 0 ≤ (o.set x.1.toNat (o.getD v 0 + 1)).getD j 0 := fun j => by
      rw [hg]; split
      · next e => subst e; omega
      · exact Int.le_refl _
    have hvx : x.1.toNat ≠ v := by omega
    have hqx : x.1.toNat ≠ q := by intro e; rw [e, h.q0] at c; omega
    have hov : (o.set x.1.toNat (o.getD v 0 + 1)).getD v 0 = o.getD v 0 := by rw [hg, if_neg hvx]
    have hun : un n (o.set x.1.toNat (o.getD v 0 + 1)) + 1 = un n o := countN_drop hxn (by simpa using c) (by simp only [decide_eq_false_iff_not]; rw [hg, if_pos rfl]; omega) (fun u _ hne => by rw [hg, if_neg (fun e => hne e.symm)])
    have hold : ∀ j, 0 ≤ o.getD j 0 → (o.set x.1.toNat (o.getD v 0 + 1)).getD j 0 = o.getD j 0 := fun j hj => by rw [hg, if_neg]; intro e; subst e; omega
    refine ⟨by simp [h.len], by rw [hg, if_neg hqx]; exact h.q0, fun u hu => Int.le_trans (h.lo u hu) (hge u), ?_, ?_, ?_, ?_, ?_, ?_, ?_⟩
    · intro u hu
      rcases List.mem_append.1 hu with hu | hu
      · have := h.inQ u hu
        rw [hold u this.2]; exact this
      · simp only [List.mem_singleton] at hu
        subst hu
        rw [hg, if_pos rfl]; exact ⟨hxn, by omega⟩
    · intro p hp hp0 hpQ hpc y hy
      have hne : x.1.toNat ≠ p := fun e => hpQ (List.mem_append_right _ (by simp [e]))
      rw [hg, if_neg hne] at hp0
      have := h.closed p hp hp0 (fun hm => hpQ (List.mem_append_left _ hm)) hpc y hy
      rw [hold _ this.1, hg p, if_neg hne]; exact this
    · intro p hp
      obtain rfl := Option.some.inj hp
      rw [hov]
      refine ⟨hv, hv0, ?_, ?_, ?_, ?_⟩
      · intro y hy
        rcases List.mem_append.1 hy with hy | hy
        · have := hs1 y hy; rw [hold _ this.1]; exact this
        · simp only [List.mem_singleton] at hy
          subst hy
          rw [hg, if_pos rfl]; omega
      · intro a ha
        rw [hg]; split
        · exact Int.le_refl _
        · exact hs2 a ha
      · intro a ha
        rcases List.mem_append.1 ha with ha | ha
        · exact Int.le_trans (hs3 a ha) (hge a)
        · simp only [List.mem_singleton] at ha
          subst ha
          rw [hg, if_pos rfl]; omega
      · simp only [List.length_append, List.length_singleton]; omega
    · rw [List.pairwise_append]
      refine ⟨?_, List.pairwise_singleton _ _, ?_⟩
      · refine List.Pairwise.imp_of_mem (fun {a b} ha hb hab => ?_) h.mono
        rw [hold a (h.inQ a ha).2, hold b (h.inQ b hb).2]; exact hab
      · intro a ha b hb
        simp only [List.mem_singleton] at hb
        subst hb
        rw [hold a (h.inQ a ha).2, hg, if_pos rfl]
        exact hs2 a (h.inQ a ha).1
    · intro hh r hQ a ha
      rcases Q with _ | ⟨y, Q'⟩
      · simp only [List.nil_append, List.cons.injEq] at hQ
        obtain ⟨rfl, _⟩ := hQ
        rw [hg x.1.toNat, if_pos rfl, hg a]
        split
        · omega
        · have := hs2 a ha; omega
      · simp only [List.cons_append, List.cons.injEq] at hQ
        obtain ⟨rfl, _⟩ := hQ
        have hy := h.inQ y (List.mem_cons_self ..)
        rw [hold y hy.2, hg a]
        split
        · have := hs3 y (List.mem_cons_self ..); omega
        · exact h.head y Q' rfl a ha
    · intro u hu
      simp only [List.length_append, List.length_singleton]
      rw [hg]; split
      · omega
      · have := h.hi u hu; omega
    · intro a ha ha0 haq
      by_cases e : x.1.toNat = a
      · subst e
        exact ⟨v, hv, by rw [hov]; exact hv0, by rw [hov, hg, if_pos rfl], x, hx, rfl⟩
      · rw [hg, if_neg e] at ha0 ⊢
        obtain ⟨p, hp, hp0, he, y, hy, hya⟩ := h.par a ha ha0 haq
        exact ⟨p, hp, by rw [hold p hp0]; exact hp0, by rw [hold p hp0]; exact he, y, hy, hya⟩
  · rw [if_neg c]
    have c : ¬ o.getD x.1.toNat 0 < 0 := c
    refine ⟨h.len, h.q0, h.lo, h.inQ, h.closed, ?_, h.mono, h.head, h.hi, h.par⟩
    intro p hp
    obtain rfl := Option.some.inj hp
    refine ⟨hv, hv0, fun y hy => ?_, hs2, hs3, hs4⟩
    rcases List.mem_append.1 hy with hy | hy
    · exact hs1 y hy
    · simp only [List.mem_singleton] at hy
      subst hy
      refine ⟨?_, hs2 _ hxn⟩
      show 0 ≤ o.getD _ 0
      omega
theorem bf_pop {n q : Nat} {es : List Tri} {o : List Int} {v : Nat} {Q : List Nat} (h : Bf n q es o (v :: Q) none []) : Bf n q es o Q (some v) [] := by
  have hv := h.inQ v (List.mem_cons_self ..)
  have hp := List.pairwise_cons.1 h.mono
  refine ⟨h.len, h.q0, h.lo, fun u hu => h.inQ u (List.mem_cons_of_mem _ hu), ?_, ?_, hp.2, ?_, ?_, h.par⟩
  · intro p hp hp0 hpQ hpc x hx
    exact h.closed p hp hp0 (fun hm => by
      rcases List.mem_cons.1 hm with rfl | hm
      · exact hpc rfl
      · exact hpQ hm) (by simp) x hx
  · intro p hpe
    obtain rfl := Option.some.inj hpe
    refine ⟨hv.1, hv.2, by simp, h.head v Q rfl, fun a ha => hp.1 a ha, ?_⟩
    have := h.hi v hv.1
    simp only [List.length_cons] at this; omega
  · intro y r hQ a ha
    have h1 := h.head v Q rfl a ha
    have h2 := hp.1 y (by rw [hQ]; exact List.mem_cons_self ..)
    omega
  · intro u hu
    have := h.hi u hu
    simp only [List.length_cons] at this; omega
theorem bf_done {n q : Nat} {es : List Tri} {o : List Int} {v : Nat} {Q : List Nat} (h : Bf n q es o Q (some v) (linksL es v)) : Bf n q es o Q none [] := by
  obtain ⟨hv, hv0, hs1, hs2, hs3, hs4⟩ := h.seen v rfl
  refine ⟨h.len, h.q0, h.lo, h.inQ, ?_, by simp, h.mono, h.head, h.hi, h.par⟩
  intro p hp hp0 hpQ _ x hx
  by_cases e : p = v
  · subst e; exact hs1 x hx
  · exact h.closed p hp hp0 hpQ (by simp; exact fun h => e h.symm) x hx
/-- What the distances are good for. -/
structure Dist (n q : Nat) (es : List Tri) (o : List Int) : Prop where
  len : o.length = n
  q0 : o.getD q 0 = 0
  bd : ∀ v, v < n → 0 ≤ o.getD v 0 ∧ o.getD v 0 ≤ 2 * n
  near : ∀ p, p < n → ∀ x ∈ linksL es p, o.getD x.1.toNat 0 ≤ o.getD p 0 + 1
  par : ∀ a, a < n → a ≠ q → ∃ p, p < n ∧ o.getD a 0 = o.getD p 0 + 1 ∧ ∃ x ∈ linksL es p, x.1.toNat = a
theorem link_of_wgt {n : Nat} {es : List Tri} {v u : Nat} (hE : Edges n es) (h : 0 < wgt es v u) : ∃ x ∈ linksL es v, x.1.toNat = u := by
  obtain ⟨t, ht, hne, hh⟩ := wgt_pos_mem h
  have hb := hE.lo t ht
  refine ⟨(t.1 + t.2.1 - v, t.2.2), ?_, by simp only; omega⟩
  unfold linksL
  refine List.mem_filterMap.2 ⟨t, ht, ?_⟩
  rw [if_pos ⟨hne, by omega⟩]
theorem bf_end {n q : Nat} {es : List Tri} {o : List Int} (hE : Edges n es) (hq : q < n) (hc : Conn n (wgt es)) (h : Bf n q es o [] none []) : Dist n q es o := by
  have hall : ∀ v, v < n → 0 ≤ o.getD v 0 := by
    apply Classical.byContradiction
    intro hno
    have : ∃ v, v < n ∧ ¬ 0 ≤ o.getD v 0 := by
      apply Classical.byContradiction
      intro h2
      exact hno fun v hv => Classical.byContradiction fun h3 => h2 ⟨v, hv, h3⟩
    obtain ⟨v, hv, hv0⟩ := this
    obtain ⟨a, u, ha, hu, ha1, hu1, hw⟩ := hc (fun v => decide (0 ≤ o.getD v 0)) ⟨q, hq, by simp only [decide_eq_true_eq]; rw [h.q0]; exact Int.le_refl _⟩ ⟨v, hv, by simpa using hv0⟩
    simp only [decide_eq_true_eq, decide_eq_false_iff_not] at ha1 hu1
    obtain ⟨x, hx, hxu⟩ := link_of_wgt hE hw
    have := h.closed a ha ha1 (by simp) (by simp) x hx
    rw [hxu] at this
    exact hu1 this.1
  refine ⟨h.len, h.q0, fun v hv => ⟨hall v hv, ?_⟩, fun p hp x hx => (h.closed p hp (hall p hp) (by simp) (by simp) x hx).2, fun a ha hne => ?_⟩
  · have := h.hi v hv; omega
  · obtain ⟨p, hp, _, he, hx⟩ := h.par a ha (hall a ha) hne
    exact ⟨p, hp, he, hx⟩
theorem bf_start {n q : Nat} {es : List Tri} (hq : q < n) : Bf n q es ((List.replicate n (-1)).set q 0) [q] none [] := by
  have hg : ∀ j, ((List.replicate n (-1 : Int)).set q 0).getD j 0 = if q = j then 0 else (List.replicate n (-1 : Int)).getD j 0 := fun j => getD_set_int _ _ _ _ (by simpa using hq)
  have hr : ∀ j, j < n → (List.replicate n (-1 : Int)).getD j 0 = -1 := fun j hj => by rw [List.getD_eq_getElem?_getD, List.getElem?_replicate, if_pos hj]; rfl
  have hle : ∀ j, j < n → ((List.replicate n (-1 : Int)).set q 0).getD j 0 ≤ 0 := fun j hj => by
    rw [hg]; split
    · exact Int.le_refl _
    · rw [hr j hj]; omega
  have honly : ∀ j, j < n → 0 ≤ ((List.replicate n (-1 : Int)).set q 0).getD j 0 → j = q := fun j hj h => by
    apply Classical.byContradiction
    intro hne
    rw [hg, if_neg (fun e => hne e.symm), hr j hj] at h; omega
  have hun : un n ((List.replicate n (-1 : Int)).set q 0) + 1 ≤ n := by
    have h1 := countN_drop (n := n) (p := fun _ => true) (p' := fun v => decide (((List.replicate n (-1 : Int)).set q 0).getD v 0 < 0)) hq rfl (by simp only [decide_eq_false_iff_not]; rw [hg, if_pos rfl]; omega) (fun v hv hne => by simp only [decide_eq_true_eq]; rw [hg, if_neg (fun e => hne e.symm), hr v hv]; omega)
    have h2 := countN_le n fun _ => true
    unfold un; omega
  refine ⟨by simp, by rw [hg, if_pos rfl], fun v hv => ?_, ?_, ?_, by simp, List.pairwise_singleton _ _, ?_, ?_, ?_⟩
  · rw [hg]; split
    · omega
    · rw [hr v hv]; omega
  · intro u hu
    simp only [List.mem_singleton] at hu
    subst hu
    exact ⟨hq, by rw [hg, if_pos rfl]; omega⟩
  · intro p hp hp0 hpQ
    exact absurd (honly p hp hp0) (by simpa using hpQ)
  · intro y r hQ a ha
    simp only [List.cons.injEq] at hQ
    obtain ⟨rfl, _⟩ := hQ
    have := hle a ha
    rw [hg q, if_pos rfl]; omega
  · intro v hv
    have := hle v hv
    simp only [List.length_singleton]; omega
  · intro a ha ha0 hne
    exact absurd (honly a ha ha0) hne
end Go.Proofs.YtjfggodnfoknfaaGreatDoor

namespace Go.Proofs.YtjfggodnfoknfaaGreatDoor
open Go.RowKit Go.Shelf

theorem wpListIn_append {l n : Nat} {P : Program} {ops : Array Oper} {Q : Exit → Act → World → Prop} {a : Act} {w : World} {rest : List Oper} {o : Oper} (hgd : o.guard = none) (s x : Operand) (t : TypeId)
    (ho : o.op = .call { callee := .builtin .append, args := #[s, x], argTypes := #[t, t] }) (vs vx : Value) (hs : a.eval s = vs) (hx : a.eval x = vx) (v' : Value) (w' : World)
    (hrun : (Builtin.append_ #[t, t] o.type #[vs, vx]).run P w = .ok v' w') (h : wpListIn (Fence.wide.inRound l) n P ops Q rest (a.put o.dst v') w') : wpListIn (Fence.wide.inRound l) n P ops Q (o :: rest) a w := by
  refine wpListIn_plain hgd fun K hK => ?_
  refine ⟨fun _ _ => trivial, ?_⟩
  rw [show (Fence.wide.inRound l).round = some l from rfl, Oper.semAt_some _ _ _ (by intro c hc; rw [ho] at hc; cases hc)]
  unfold execOp
  simp only [ho, resolve, invoke, builtin, Sem.run_bind, Sem.run_pure, Result.andThen_ok, List.map_toArray, List.map_cons, List.map_nil, hs, hx, hrun]
  exact hK _ _ h
theorem QI.putLoop {w : World} {g : Nat} {v : Value} {Q : List Nat} (h : QI w g v Q) {l : Nat} {r : Loop} (hl : w.heap[l]? = some (.loop r)) (o : Obj) : QI (w.putObj l o) g v Q := by
  refine h.keep (World.putObj_heap_other ?_)
  rintro rfl
  obtain ⟨_, _, _, _, hh, _⟩ := h
  rw [hl] at hh; cases hh
theorem QI.ne_bl {w : World} {g b : Nat} {v : Value} {Q : List Nat} {T : TypeId} {us : List Value} (h : QI w g v Q) (hb : BL w b T us) (hT : T ≠ 3) : b ≠ g := by
  rintro rfl
  obtain ⟨_, _, _, _, hh, _⟩ := h
  unfold BL at hb
  rw [hb] at hh
  simp only [Option.some.injEq, Obj.cells.injEq] at hh
  exact hT hh.2.1
theorem Fr.ofBelow {w W : World} (h : Below w.heap.size w W) : Fr [] w W := ⟨h.os, h.tape, h.output, h.size, fun k hk _ => h.block k hk⟩
theorem Fr.below_ {w W : World} (h : Fr [] w W) : Below w.heap.size w W := ⟨h.os, h.tape, h.output, h.size, fun k hk => h.block k hk (by simp)⟩
theorem Fr.grownQ {w W w' : World} {gq : Nat} {o : Obj} (h : Fr [] w W) (hg : (W.drew.alloc o).grownBy w' (some gq)) (hq : w.heap.size ≤ gq) : Fr [] w w' :=
  ⟨hg.os.trans h.os, hg.tape.trans h.tape, hg.output.trans h.output, by have := hg.size; have := h.size; simp at *; omega, fun k hk _ => by
    have hs := h.size
    have e1 := hg.block k (by simp; omega) (fun e => by simp at e; omega)
    exact e1.trans ((Below.heap_alloc W.drew o k (by simp; omega)).trans (h.block k hk (by simp)))⟩
/-- out lies at block g behind the box bo, the queue at block gq behind the box bq, the vertex at work in the box vb. -/
def DiI (w : World) (hx hv vb bo bq g b v eb n : Nat) (ve : Value) (q : Nat) (vd vs : Value) (es : List Tri) (o : List Int) (Q : List Nat) (ds : List Deferred) (pre : List (Int × Int)) (W : World) : Prop :=
  LkPre hx hv b v eb n ve q vd vs 0 es W ∧ BL W vb 3 [.int .i64 (v : Nat)] ∧ BL W bo 25 [.slice (some ⟨g, 0, none⟩) n n] ∧
    (∃ gq vq, BL W bq 25 [vq] ∧ QI W gq vq (bfsI v pre (o, Q)).2 ∧ g < gq ∧ gq ≠ vb ∧ gq ≠ hv) ∧
    OI W w.heap.size (.slice (some ⟨g, 0, none⟩) n n) (bfsI v pre (o, Q)).1 ∧ Fr [] w W ∧ Bf n q es (bfsI v pre (o, Q)).1 (bfsI v pre (o, Q)).2 (some v) pre ∧ Marks w.heap.size ds W
theorem DiI.below {w : World} {hx hv vb bo bq g b v eb n : Nat} {ve : Value} {q : Nat} {vd vs : Value} {es : List Tri} {o : List Int} {Q : List Nat} {ds : List Deferred} {pre : List (Int × Int)} {W W' : World} (h : DiI w hx hv vb bo bq g b v eb n ve q vd vs es o Q ds pre W) (hr : Below W.heap.size W W') : DiI w hx hv vb bo bq g b v eb n ve q vd vs es o Q ds pre W' := by
  obtain ⟨h1, h2, h3, ⟨gq, vq, h4, h5, h6⟩, h7, h8, h9, h10⟩ := h
  exact ⟨h1.below hr, h2.bel hr, h3.bel hr, ⟨gq, vq, h4.bel hr, h5.below hr, h6⟩, h7.below hr, h8.below hr, h9, h10.keep fun b' _ h => hr.block b' (lt_of_block h)⟩
theorem bfsT_meas {n v : Nat} {o : List Int} {Q : List Nat} {x : Int × Int} (hl : o.length = n) (hx : x.1.toNat < n) (hv : 0 ≤ o.getD v 0) :
    2 * un n (bfsT v (o, Q) x).1 + (bfsT v (o, Q) x).2.length ≤ 2 * un n o + Q.length ∧ (bfsT v (o, Q) x).1.length = n ∧ 0 ≤ (bfsT v (o, Q) x).1.getD v 0 := by
  unfold bfsT
  dsimp only
  by_cases c : o.getD x.1.toNat 0 < 0
  · rw [if_pos c]
    dsimp only
    have hg : ∀ j, (o.set x.1.toNat (o.getD v 0 + 1)).getD j 0 = if x.1.toNat = j then o.getD v 0 + 1 else o.getD j 0 := fun j => getD_set_int _ _ _ _ (by rw [hl]; exact hx)
    have hun : un n (o.set x.1.toNat (o.getD v 0 + 1)) + 1 = un n o := countN_drop hx (by simpa using c) (by simp only [decide_eq_false_iff_not]; rw [hg, if_pos rfl]; omega) (fun u _ hne => by rw [hg, if_neg (fun e => hne e.symm)])
    refine ⟨by rw [List.length_append, List.length_singleton]; omega, by simpa using hl, ?_⟩
    rw [hg]; split <;> omega
  · rw [if_neg c]
    exact ⟨Nat.le_refl _, hl, hv⟩
theorem bfsI_meas {n v : Nat} {l : List (Int × Int)} (hx : ∀ x ∈ l, x.1.toNat < n) : ∀ {o : List Int} {Q : List Nat}, o.length = n → 0 ≤ o.getD v 0 →
    2 * un n (bfsI v l (o, Q)).1 + (bfsI v l (o, Q)).2.length ≤ 2 * un n o + Q.length := by
  induction l with
  | nil => intro o Q _ _; exact Nat.le_refl _
  | cons x l ih =>
    intro o Q hl hv
    obtain ⟨h1, h2, h3⟩ := bfsT_meas (Q := Q) hl (hx x (by simp)) hv
    have := ih (fun y hy => hx y (by simp [hy])) (o := (bfsT v (o, Q) x).1) (Q := (bfsT v (o, Q) x).2) h2 h3
    have e : bfsI v (x :: l) (o, Q) = bfsI v l ((bfsT v (o, Q) x).1, (bfsT v (o, Q) x).2) := rfl
    rw [e]
    omega
end Go.Proofs.YtjfggodnfoknfaaGreatDoor

