/- What holds while distances looks at one vertex's neighbours. -/
import Derived.Test.YtefggpdobjboeaaGreatG11
namespace Go.Proofs.YtefggpdobjboeaaGreat
open Go.RowKit Go.Shelf

theorem wpListIn_append {l n : Nat} {P : Program} {ops : Array Oper} {Q : Exit → Act → World → Prop} {a : Act} {w : World} {rest : List Oper} {o : Oper} (hgd : o.guard = none) (s x : Operand) (t : TypeId)
    (ho : o.op = .call { callee := .builtin .append, args := #[s, x], argTypes := #[t, t] }) (vs vx : Value) (hs : a.eval s = vs) (hx : a.eval x = vx) (v' : Value) (w' : World)
    (hrun : (Builtin.append_ #[t, t] o.type #[vs, vx]).run P w = .ok v' w') (h : wpListIn (Fence.wide.inRound l) n P ops Q rest (a.put o.dst v') w') : wpListIn (Fence.wide.inRound l) n P ops Q (o :: rest) a w := by
  refine wpListIn_plain hgd fun K hK => ?_
  refine ⟨fun _ _ => trivial, ?_⟩
  rw [show (Fence.wide.inRound l).round = some l from rfl, Oper.semAt_some _ _ _ (by intro c hc; rw [ho] at hc; cases hc)]
  unfold execOp
  simp only [ho, resolve, invoke, builtin, Sem.run_bind, Sem.run_pure, Result.andThen_ok, List.map_toArray, List.map_cons, List.map_nil, hs, hx, hrun]
  exact hK _ _ h
theorem QI.putLoop {w : World} {g : Nat} {v : Value} {Q : List Nat} (h : QI w g v Q) {l : Nat} {r : Loop} (hl : w.heap[l]? = some (.loop r)) (o : Obj) : QI (w.putObj l o) g v Q := by
  refine h.keep (World.putObj_heap_other ?_)
  rintro rfl
  obtain ⟨_, _, _, _, hh, _⟩ := h
  rw [hl] at hh; cases hh
theorem QI.ne_bl {w : World} {g b : Nat} {v : Value} {Q : List Nat} {T : TypeId} {us : List Value} (h : QI w g v Q) (hb : BL w b T us) (hT : T ≠ 3) : b ≠ g := by
  rintro rfl
  obtain ⟨_, _, _, _, hh, _⟩ := h
  unfold BL at hb
  rw [hb] at hh
  simp only [Option.some.injEq, Obj.cells.injEq] at hh
  exact hT hh.2.1
theorem Fr.ofBelow {w W : World} (h : Below w.heap.size w W) : Fr [] w W := ⟨h.os, h.tape, h.output, h.size, fun k hk _ => h.block k hk⟩
theorem Fr.below_ {w W : World} (h : Fr [] w W) : Below w.heap.size w W := ⟨h.os, h.tape, h.output, h.size, fun k hk => h.block k hk (by simp)⟩
theorem Fr.grownQ {w W w' : World} {gq : Nat} {o : Obj} (h : Fr [] w W) (hg : (W.drew.alloc o).grownBy w' (some gq)) (hq : w.heap.size ≤ gq) : Fr [] w w' :=
  ⟨hg.os.trans h.os, hg.tape.trans h.tape, hg.output.trans h.output, by have := hg.size; have := h.size; simp at *; omega, fun k hk _ => by
    have hs := h.size
    have e1 := hg.block k (by simp; omega) (fun e => by simp at e; omega)
    exact e1.trans ((Below.heap_alloc W.drew o k (by simp; omega)).trans (h.block k hk (by simp)))⟩
/-- out lies at block g behind the box bo, the queue at block gq behind the box bq, the vertex at work in the box vb. -/
def DiI (w : World) (hx hv vb bo bq g b v eb n : Nat) (ve : Value) (q : Nat) (vd vs : Value) (es : List Tri) (o : List Int) (Q : List Nat) (ds : List Deferred) (pre : List (Int × Int)) (W : World) : Prop :=
  LkPre hx hv b v eb n ve q vd vs 0 es W ∧ BL W vb 3 [.int .i64 (v : Nat)] ∧ BL W bo 25 [.slice (some ⟨g, 0, none⟩) n n] ∧
    (∃ gq vq, BL W bq 25 [vq] ∧ QI W gq vq (bfsI v pre (o, Q)).2 ∧ g < gq ∧ gq ≠ vb ∧ gq ≠ hv) ∧
    OI W w.heap.size (.slice (some ⟨g, 0, none⟩) n n) (bfsI v pre (o, Q)).1 ∧ Fr [] w W ∧ Bf n q es (bfsI v pre (o, Q)).1 (bfsI v pre (o, Q)).2 (some v) pre ∧ Marks w.heap.size ds W
theorem DiI.below {w : World} {hx hv vb bo bq g b v eb n : Nat} {ve : Value} {q : Nat} {vd vs : Value} {es : List Tri} {o : List Int} {Q : List Nat} {ds : List Deferred} {pre : List (Int × Int)} {W W' : World} (h : DiI w hx hv vb bo bq g b v eb n ve q vd vs es o Q ds pre W) (hr : Below W.heap.size W W') : DiI w hx hv vb bo bq g b v eb n ve q vd vs es o Q ds pre W' := by
  obtain ⟨h1, h2, h3, ⟨gq, vq, h4, h5, h6⟩, h7, h8, h9, h10⟩ := h
  exact ⟨h1.below hr, h2.bel hr, h3.bel hr, ⟨gq, vq, h4.bel hr, h5.below hr, h6⟩, h7.below hr, h8.below hr, h9, h10.keep fun b' _ h => hr.block b' (lt_of_block h)⟩
theorem bfsT_meas {n v : Nat} {o : List Int} {Q : List Nat} {x : Int × Int} (hl : o.length = n) (hx : x.1.toNat < n) (hv : 0 ≤ o.getD v 0) :
    2 * un n (bfsT v (o, Q) x).1 + (bfsT v (o, Q) x).2.length ≤ 2 * un n o + Q.length ∧ (bfsT v (o, Q) x).1.length = n ∧ 0 ≤ (bfsT v (o, Q) x).1.getD v 0 := by
  unfold bfsT
  dsimp only
  by_cases c : o.getD x.1.toNat 0 < 0
  · rw [if_pos c]
    dsimp only
    have hg : ∀ j, (o.set x.1.toNat (o.getD v 0 + 1)).getD j 0 = if x.1.toNat = j then o.getD v 0 + 1 else o.getD j 0 := fun j => getD_set_int _ _ _ _ (by rw [hl]; exact hx)
    have hun : un n (o.set x.1.toNat (o.getD v 0 + 1)) + 1 = un n o := countN_drop hx (by simpa using c) (by simp only [decide_eq_false_iff_not]; rw [hg, if_pos rfl]; omega) (fun u _ hne => by rw [hg, if_neg (fun e => hne e.symm)])
    refine ⟨by rw [List.length_append, List.length_singleton]; omega, by simpa using hl, ?_⟩
    rw [hg]; split <;> omega
  · rw [if_neg c]
    exact ⟨Nat.le_refl _, hl, hv⟩
theorem bfsI_meas {n v : Nat} {l : List (Int × Int)} (hx : ∀ x ∈ l, x.1.toNat < n) : ∀ {o : List Int} {Q : List Nat}, o.length = n → 0 ≤ o.getD v 0 →
    2 * un n (bfsI v l (o, Q)).1 + (bfsI v l (o, Q)).2.length ≤ 2 * un n o + Q.length := by
  induction l with
  | nil => intro o Q _ _; exact Nat.le_refl _
  | cons x l ih =>
    intro o Q hl hv
    obtain ⟨h1, h2, h3⟩ := bfsT_meas (Q := Q) hl (hx x (by simp)) hv
    have := ih (fun y hy => hx y (by simp [hy])) (o := (bfsT v (o, Q) x).1) (Q := (bfsT v (o, Q) x).2) h2 h3
    have e : bfsI v (x :: l) (o, Q) = bfsI v l ((bfsT v (o, Q) x).1, (bfsT v (o, Q) x).2) := rfl
    rw [e]
    omega
end Go.Proofs.YtefggpdobjboeaaGreat
