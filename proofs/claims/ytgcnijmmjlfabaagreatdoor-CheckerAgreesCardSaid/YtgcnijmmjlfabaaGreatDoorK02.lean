/- Marks of ranges over functions that stand in a loop; what a call leaves alone but some blocks.
   A region that draws its order within a round of a range over a function: reads first, one tail.
   Contract of reduced's fire. Printed by gen/fire35.py.
   Contract of reduced's begin.
   Contracts of slices.Max at ints, slices.Min at scripts.
   Contracts of package equivalence: given, each, least.
   Contract of reduced's unburnt.
   Contract of reduced's distances.
   Contracts of package equivalence: Equivalent.
   The single edges of a graph: graph.singles and its iterator.
   Contract of graph.Ends.
   Contract of burning's kindled.
   A range over a function whose iterator says what it leaves in its own memory.
   Contracts of burning: fire, unburnt.
   Contracts of burning: Burn, Superstable; superstable's calm.
   Contract of superstable's configurations: the closure from.
   Contract of superstable's configurations: the iterator.
   Contract of superstable's All.
   Package stabilize's pile: the words, unstable, wait.
   What Equivalent and Classes answer, in plain words.
   Contracts of the references of layers 8 and 17: what checks graphs and divisors. -/
import Derived.Test.YtgcnijmmjlfabaaGreatDoorK01
import Derived.Deep.DeepCutAuto
import Derived.Deep.OwnRows
import Derived.Deep.RegionHeld3
import Derived.Laws.CopyOwn
set_option maxRecDepth 100000
set_option maxHeartbeats 16000000
namespace Go.Proofs.YtgcnijmmjlfabaaGreatDoor
open Go.RowKit Go.Shelf

/-- The marks of a function, each at a block of its own from B on, the last one first. -/
def Marks (B : Nat) : List Deferred → World → Prop
  | [], _ => True
  | d :: r, w => (∃ b, d.target = .collected b ∧ B ≤ b ∧ w.heap[b]? = some (.deferred (some [])) ∧ ∀ d' ∈ r, ∀ b', d'.target = .collected b' → b' < b) ∧ Marks B r w
/-- Only marks from B on have been shut. -/
structure Shut (B : Nat) (w w' : World) : Prop where
  os : w'.os = w.os
  tape : w'.tape = w.tape
  output : w'.output = w.output
  size : w'.heap.size = w.heap.size
  block : ∀ k, w'.heap[k]? = w.heap[k]? ∨ (B ≤ k ∧ w.heap[k]? = some (.deferred (some [])))
theorem Shut.refl (B : Nat) (w : World) : Shut B w w := ⟨rfl, rfl, rfl, rfl, fun _ => .inl rfl⟩
theorem leaves_marks {F : Fence} {n : Nat} {P : Program} {fn : Func} {tmps : Array Value} {R : Ending → World → Prop} {B : Nat} (ds : List Deferred) (w : World) (hm : Marks B ds w)
    (h : ∀ w', Shut B w w' → ∃ v, (results fn tmps).run P w' = .ok v w' ∧ R (.returned v) w') : LeavesInM F n P fn tmps R ds .returning w := by
  induction ds generalizing w with
  | nil => exact h w (Shut.refl _ _)
  | cons d r ih =>
    obtain ⟨⟨b, h1, h2, h3, h4⟩, h5⟩ := hm
    have hbl := lt_of_block h3
    refine ⟨by simp, .inl ⟨b, w.putObj b (.deferred none), h1, run_takeDeferred h3, ih _ ?_ ?_⟩⟩
    · have : ∀ (r : List Deferred), (∀ d' ∈ r, ∀ b', d'.target = .collected b' → b' < b) → Marks B r w → Marks B r (w.putObj b (.deferred none)) := fun r => by
        induction r with
        | nil => intros; trivial
        | cons d' r' ih' =>
          intro hlt hm'
          obtain ⟨⟨b', g1, g2, g3, g4⟩, g5⟩ := hm'
          have := hlt d' (List.mem_cons_self ..) b' g1
          exact ⟨⟨b', g1, g2, (World.putObj_heap_other (by omega)).trans g3, g4⟩, ih' (fun d hd => hlt d (List.mem_cons_of_mem _ hd)) g5⟩
      exact this r h4 h5
    · intro w' hs
      refine h w' ⟨hs.os, hs.tape, hs.output, hs.size.trans (by simp [World.putObj]), fun k => ?_⟩
      by_cases e : k = b
      · subst e; exact .inr ⟨h2, h3⟩
      · rw [show w.heap[k]? = (w.putObj b (.deferred none)).heap[k]? from (World.putObj_heap_other e).symm]
        exact hs.block k
theorem BL.shut {w w' : World} {b B : Nat} {T : TypeId} {us : List Value} (h : BL w b T us) (hs : Shut B w w') : BL w' b T us := by
  rcases hs.block b with e | ⟨_, e⟩
  · exact e.trans h
  · unfold BL at h; rw [h] at e; cases e
/-- All blocks that were there are as they were, but some. -/
structure Fr (Bs : List Nat) (w w' : World) : Prop where
  os : w'.os = w.os
  tape : w'.tape = w.tape
  output : w'.output = w.output
  size : w.heap.size ≤ w'.heap.size
  block : ∀ k, k < w.heap.size → k ∉ Bs → w'.heap[k]? = w.heap[k]?
theorem Fr.refl (Bs : List Nat) (w : World) : Fr Bs w w := ⟨rfl, rfl, rfl, Nat.le_refl _, fun _ _ _ => rfl⟩
theorem Fr.below {Bs : List Nat} {w W W' : World} (h : Fr Bs w W) (hb : Below W.heap.size W W') : Fr Bs w W' :=
  ⟨hb.os.trans h.os, hb.tape.trans h.tape, hb.output.trans h.output, Nat.le_trans h.size hb.size, fun k hk hn => (hb.block k (by have := h.size; omega)).trans (h.block k hk hn)⟩
theorem Fr.setCell {Bs : List Nat} {w W : World} (h : Fr Bs w W) {p : Addr} (hp : p.block ∈ Bs ∨ w.heap.size ≤ p.block) (v : Value) : Fr Bs w (W.setCell p v) :=
  ⟨h.os, h.tape, h.output, by simpa using h.size, fun k hk hn => (heap_setCell_other W p k v (by rintro rfl; rcases hp with hp | hp; exact hn hp; omega)).trans (h.block k hk hn)⟩
/-- For a caller in whose own memory all those blocks lie. -/
theorem Fr.toBelow {Bs : List Nat} {w W W' : World} (h : Below w.heap.size w W) (k : Fr Bs W W') (hB : ∀ b ∈ Bs, w.heap.size ≤ b) : Below w.heap.size w W' :=
  h.trans ⟨k.os, k.tape, k.output, k.size, fun i hi => k.block i (by have := h.size; omega) (fun hm => by have := hB i hm; omega)⟩
theorem BL.fr {Bs : List Nat} {w w' : World} {b : Nat} {T : TypeId} {us : List Value} (h : BL w b T us) (hf : Fr Bs w w') (hn : b ∉ Bs) : BL w' b T us := (hf.block b h.lt hn).trans h
end Go.Proofs.YtgcnijmmjlfabaaGreatDoor

namespace Go.Proofs.YtgcnijmmjlfabaaGreatDoor
open Go.RowKit Go.Shelf

/-- Operations that read, reckon or store. -/
def simpleOp : Op → Bool
  | .move _ | .assign _ | .load .. | .store .. | .fieldAddr .. | .indexAddr .. | .binOp .. | .nilCheck _ | .buildSlice .. => true
  | _ => false
def Flat : Result Next → Prop
  | .ok (.value _) _ | .ok .skip _ | .halt _ _ => True
  | _ => False
theorem flat_v {P : Program} {w : World} (s : Sem Value) : Flat ((do pure (.value (← s)) : Sem Next).run P w) := by
  rw [Sem.run_bind]
  cases s.run P w <;> trivial
theorem flat_u {P : Program} {w : World} (s : Sem Unit) : Flat ((do s; pure .skip : Sem Next).run P w) := by
  rw [Sem.run_bind]
  cases s.run P w <;> trivial
theorem flat_then {α : Type} (r : Result α) (f : α → World → Result Next) (h : ∀ a w, Flat (f a w)) : Flat (r.andThen f) := by
  cases r with
  | ok a w => exact h a w
  | halt _ _ => trivial
theorem flat_of {P : Program} {w : World} {ρ : Operand → Value} {o : Oper} (h : simpleOp o.op = true) : Flat ((execOp ρ o).run P w) := by
  unfold execOp
  cases ho : o.op <;> rw [ho] at h <;> first | (simp [simpleOp] at h; done) | exact flat_v _ | exact flat_u _ | exact trivial | skip
  dsimp only
  have hp : Flat ((runtimePanic .nilDeref : Sem Next).run P w) := by
    unfold runtimePanic
    simp only [Sem.run_bind]
    refine flat_then _ _ fun a w' => ?_
    simp [goPanic, go_sem, Flat]
  split
  · exact hp
  · exact hp
  · exact hp
  · split
    · exact hp
    · rw [Sem.run_bind]
      refine flat_then _ _ fun a w' => ?_
      rw [Sem.run_bind]
      refine flat_then _ _ fun b w'' => ?_
      split
      · rw [Sem.run_bind]
        exact flat_then _ _ fun _ _ => trivial
      · trivial
    · trivial
  · trivial

variable {P : Program}
theorem about_simple {w : World} {ρ : Operand → Value} {o : Oper} (h : simpleOp o.op = true) : o.about P w ρ = none := by
  unfold Oper.about
  cases ho : o.op <;> first | rfl | (rw [ho] at h; cases h)
theorem opIn_of_op {l N : Nat} {o : Oper} {a : Act} {w : World} {K : Act → World → Prop} {Q : Exit → Act → World → Prop} (hs : simpleOp o.op = true) (h : o.wp P a w K Q) : o.wpIn (Fence.wide.inRound l) N P a w K Q := by
  refine ⟨fun _ _ => trivial, ?_⟩
  rw [Oper.semAt_plain (Fence.wide.inRound l) _ _ (by intro c hc; rw [hc] at hs; cases hs)]
  have hf := flat_of (P := P) (w := w) (ρ := a.eval) hs
  unfold Oper.wp at h
  generalize (execOp a.eval o).run P w = r at h hf
  match r, hf, h with
  | .ok (.value v) w', _, h => exact h
  | .ok .skip w', _, h => exact h
  | .halt (.panic v) w', _, h => exact h
theorem anyIn_of_any {l N : Nat} {md : Region.Mode} {ops : Array Oper} {Q : Exit → Act → World → Prop} (hs : ∀ o ∈ ops, simpleOp o.op = true) (hQ : ¬ LetsOut Q) (fuel : Nat) (listed : Array Bool) (a : Act) (w : World)
    (h : wpAny P md ops Q fuel listed a w) : wpAnyIn (Fence.wide.inRound l) N P md ops Q fuel listed a w := by
  induction fuel generalizing listed a w with
  | zero => exact h
  | succ fuel ih =>
    refine ⟨h.1, fun i hi => ?_⟩
    have hi' := h.2 i hi
    unfold wpOp at hi'
    unfold wpOpIn
    cases ho : ops[i]? with
    | none => rw [ho] at hi'; exact ih _ _ _ hi'
    | some o =>
      rw [ho] at hi'
      have hm : o ∈ ops := Array.mem_of_getElem? ho
      dsimp only at hi' ⊢
      split at hi'
      · next c =>
        rw [if_pos c]
        rcases hi' with hi' | hi'
        · have := opIn_of_op (l := l) (N := N) (hs o hm) hi'
          exact Oper.wpIn_mono (fun a w h => ih _ _ _ h) this
        · exact absurd hi'.2 hQ
      · next c =>
        rw [if_neg c]
        exact ⟨fun f hf => (by rw [about_simple (hs o hm)] at hf; cases hf), ih _ _ _ hi'⟩
/-- Reads, then one tail in one order, within a round. -/
theorem still_tail_round {l N id : Nat} {Q : Exit → Act → World → Prop} {a : Act} {w : World} {ops : List Oper} (n : Nat) (hm : P.follows .mixedOrders = true) (hs : ops.all (fun o => simpleOp o.op) = true) (hB : Region.lexTailB .any ops.toArray n = true) (hQ : ¬ LetsOut Q)
    (h : wpStill P ops.toArray { w with drawn := w.drawn + 1 } (fun a' => wpList P ops.toArray Q (ops.drop n) a' { w with drawn := w.drawn + 1 }) (ops.take n) a) : (Code.region id ops.toArray true).wpIn (Fence.wide.inRound l) N P Q a w := by
  simp only [Region.lexTailB, Bool.and_eq_true, decide_eq_true_eq] at hB
  obtain ⟨⟨⟨⟨hsel, hn⟩, hsi⟩, hc⟩, hlex⟩ := hB
  have hlen : (ops.take n).length = n := by simp at hn ⊢; omega
  have hdl : (ops.drop n).length = ops.toArray.size - n := by simp
  have hd0 : HeadInv .any ops.toArray n (Array.replicate ops.toArray.size false) :=
    ⟨by simp, fun j oj _ hl => (by rw [getD_replicate_false] at hl; cases hl), fun t _ ht => getD_in (by simpa using ht) (getD_replicate_false _ _)⟩
  have H := wpAnyL_lex (md := .any) (g := ops.toArray.size - n) hsel hsi hc hn (ops.take n) 0 _ a (fun j hj => by rw [hlen] at hj; simp [hj]) (by simpa using hlen) hd0 (by rw [hlen]; exact hlex) h
  have K := wpAny_of_head (Q' := Q) (g := ops.toArray.size - n) (fun listed a' hL => by
    have q := wpAny_of_seq (md := .any) (Q' := Q) (ops.drop n) n listed a' { w with drawn := w.drawn + 1 } (fun j => by simp [List.getElem?_drop]) (by rw [hdl]; exact hL.1) hL.2
    rwa [hdl] at q) _ _ _ H
  have hsum : n + (ops.toArray.size - n) = ops.toArray.size := by omega
  rw [hlen, hsum] at K
  refine wpIn_region_any hm (anyIn_of_any (fun o ho => ?_) hQ _ _ _ _ K)
  exact List.all_eq_true.1 hs o (by simpa using ho)
end Go.Proofs.YtgcnijmmjlfabaaGreatDoor

namespace Go.Proofs.YtgcnijmmjlfabaaGreatDoor
open Go.RowKit Go.Shelf
attribute [local go_sem] Oper.semAt_some

theorem OI.setOther {w : World} {B g n cap : Nat} {zs : List Int} (h : OI w B (.slice (some ⟨g, 0, none⟩) n cap) zs) {p : Addr} (hp : g ≠ p.block) (x : Value) : OI (w.setCell p x) B (.slice (some ⟨g, 0, none⟩) n cap) zs := by
  refine ⟨⟨h.1.1, ?_⟩, h.2⟩
  rcases h.1.2 with h2 | ⟨g', cap', cur, hv, hg, hh, r⟩
  · exact .inl h2
  · simp only [Value.slice.injEq, Option.some.injEq, Addr.mk.injEq, and_true] at hv
    obtain ⟨rfl, hv⟩ := hv
    exact .inr ⟨g, cap', cur, by simp [hv], hg, (heap_setCell_other w p g x hp).trans hh, r⟩
theorem OV.heapEq {w w' : World} {B g n cap : Nat} {e : TypeId} {us : List Value} (h : OV w B e (.slice (some ⟨g, 0, none⟩) n cap) us) (hk : w'.heap[g]? = w.heap[g]?) : OV w' B e (.slice (some ⟨g, 0, none⟩) n cap) us := by
  refine ⟨⟨h.1.1, ?_⟩, h.2⟩
  rcases h.1.2 with h2 | ⟨g', cap', cur, hv, hg, hh, r⟩
  · exact .inl h2
  · simp only [Value.slice.injEq, Option.some.injEq, Addr.mk.injEq, and_true] at hv
    obtain ⟨rfl, hv⟩ := hv
    exact .inr ⟨g, cap', cur, by simp [hv], hg, hk.trans hh, r⟩
end Go.Proofs.YtgcnijmmjlfabaaGreatDoor

namespace Go.Proofs.YtgcnijmmjlfabaaGreatDoor
open Go.RowKit Go.Shelf

theorem own_zeros (W : World) (n : Nat) (hn : n ≤ 1000) : OI (W.alloc (.cells (madeCells #[Value.int .i64 0] n) 3)) W.heap.size (.slice (some ⟨W.heap.size, 0, none⟩) n n) (List.replicate n 0) := by
  have hs : (madeCells #[Value.int .i64 0] n).toList = List.replicate n (.int .i64 0) := by simpa using toList_madeCells_one (.int .i64 0) n
  refine ⟨⟨by simp, .inr ⟨W.heap.size, n, madeCells #[Value.int .i64 0] n, by simp, Nat.le_refl _, heap_alloc_new W _, by simp, by unfold maxLen; omega, ?_, ?_⟩⟩, by simp; omega⟩
  · have := congrArg List.length hs
    simpa using this
  · rw [hs]; simp
end Go.Proofs.YtgcnijmmjlfabaaGreatDoor

namespace Go.Proofs.YtgcnijmmjlfabaaGreatDoor
open Go.RowKit

/-- The greatest of the first k + 1. -/
def maxTo (zs : List Int) : Nat → Int
  | 0 => zs.getD 0 0
  | k + 1 => if maxTo zs k < zs.getD (k + 1) 0 then zs.getD (k + 1) 0 else maxTo zs k
def minTo (zs : List Int) : Nat → Int
  | 0 => zs.getD 0 0
  | k + 1 => if zs.getD (k + 1) 0 < minTo zs k then zs.getD (k + 1) 0 else minTo zs k
theorem maxTo_ge (zs : List Int) (k : Nat) : ∀ j, j ≤ k → zs.getD j 0 ≤ maxTo zs k := by
  induction k with
  | zero => intro j hj; rw [show j = 0 by omega]; exact Int.le_refl _
  | succ k ih =>
    intro j hj
    rcases Nat.lt_or_ge j (k + 1) with c | c
    · have := ih j (by omega); simp only [maxTo]; split <;> omega
    · obtain rfl : j = k + 1 := by omega
      simp only [maxTo]; split <;> omega
theorem maxTo_is (zs : List Int) (k : Nat) : ∃ j, j ≤ k ∧ maxTo zs k = zs.getD j 0 := by
  induction k with
  | zero => exact ⟨0, Nat.le_refl _, rfl⟩
  | succ k ih =>
    simp only [maxTo]; split
    · exact ⟨k + 1, Nat.le_refl _, rfl⟩
    · obtain ⟨j, hj, he⟩ := ih; exact ⟨j, by omega, he⟩
theorem minTo_le (zs : List Int) (k : Nat) : ∀ j, j ≤ k → minTo zs k ≤ zs.getD j 0 := by
  induction k with
  | zero => intro j hj; rw [show j = 0 by omega]; exact Int.le_refl _
  | succ k ih =>
    intro j hj
    rcases Nat.lt_or_ge j (k + 1) with c | c
    · have := ih j (by omega); simp only [minTo]; split <;> omega
    · obtain rfl : j = k + 1 := by omega
      simp only [minTo]; split <;> omega
theorem minTo_is (zs : List Int) (k : Nat) : ∃ j, j ≤ k ∧ minTo zs k = zs.getD j 0 := by
  induction k with
  | zero => exact ⟨0, Nat.le_refl _, rfl⟩
  | succ k ih =>
    simp only [minTo]; split
    · exact ⟨k + 1, Nat.le_refl _, rfl⟩
    · obtain ⟨j, hj, he⟩ := ih; exact ⟨j, by omega, he⟩
theorem run_min2z {P : Program} (ts : Array TypeId) (t : TypeId) (k : IntKind) (x y : Int) (w : World) : (Builtin.min_ ts t #[.int k x, .int k y]).run P w = .ok (.int k (if y < x then y else x)) w := by
  simp [Builtin.min_, Builtin.min2]
end Go.Proofs.YtgcnijmmjlfabaaGreatDoor

namespace Go.Proofs.YtgcnijmmjlfabaaGreatDoor
open Go.RowKit Go.Shelf

/-- The first error of some divisors. -/
def firstE (n : Int) : List (List Int) → Int
  | [] => 0
  | zs :: r => if checkE zs n ≠ 0 then checkE zs n else firstE n r
def eGiven (n : Int) (es : List Tri) (l : List (List Int)) : Int := if gcheckE n es ≠ 0 then gcheckE n es else if connB n es = false then 13 else firstE n l
end Go.Proofs.YtgcnijmmjlfabaaGreatDoor

namespace Go.Proofs.YtgcnijmmjlfabaaGreatDoor
open Go.RowKit Go.Shelf

theorem bool_info : (Tryz.prog.info? 4).map (fun i => (i.zero, i.size, i.bytes)) = some (some (.bool false), 1, 1) := by kernel_rfl
theorem own_falses (W : World) (n : Nat) (hn : n ≤ 1000) : OV (W.alloc (.cells (madeCells #[Value.bool false] n) 4)) W.heap.size 4 (.slice (some ⟨W.heap.size, 0, none⟩) n n) ((List.replicate n false).map Value.bool) := by
  have hs : (madeCells #[Value.bool false] n).toList = List.replicate n (.bool false) := by simpa using toList_madeCells_one (.bool false) n
  refine ⟨⟨by simp, .inr ⟨W.heap.size, n, madeCells #[Value.bool false] n, by simp, Nat.le_refl _, heap_alloc_new W _, by simp, by unfold maxLen; omega, ?_, ?_⟩⟩, by simp; omega⟩
  · have := congrArg List.length hs
    simpa using this
  · rw [hs]; simp
def fnB (b : List Bool) (v : Nat) : Bool := b.getD v false
def nb (n : Nat) (bt : List Bool) : Nat := countN n fun v => !fnB bt v
end Go.Proofs.YtgcnijmmjlfabaaGreatDoor

namespace Go.Proofs.YtgcnijmmjlfabaaGreatDoor
open Go.RowKit Go.Shelf
attribute [local go_sem] Oper.semAt_some

theorem Below.shut {B : Nat} {w W W' : World} (h : Below B w W) (hs : Shut B W W') : Below B w W' :=
  h.trans ⟨hs.os, hs.tape, hs.output, by rw [hs.size]; exact Nat.le_refl _, fun k hk => (hs.block k).resolve_right fun c => by omega⟩
end Go.Proofs.YtgcnijmmjlfabaaGreatDoor

namespace Go.Proofs.YtgcnijmmjlfabaaGreatDoor
open Go.RowKit Go.Shelf

/-- What the laws call small. -/
def Sm (n : Int) (es : List Tri) : Prop := gcheckE n es = 0 → n ≤ 6 ∧ multS es ≤ 9
theorem eGiven_ok {n : Int} {es : List Tri} {l : List (List Int)} (h : eGiven n es l = 0) : gcheckE n es = 0 ∧ connB n es = true ∧ ∀ zs ∈ l, checkE zs n = 0 := by
  unfold eGiven at h
  by_cases a : gcheckE n es ≠ 0
  · rw [if_pos a] at h; exact absurd h a
  · rw [if_neg a] at h
    by_cases b : connB n es = false
    · rw [if_pos b] at h; cases h
    · rw [if_neg b] at h
      refine ⟨by simpa using a, by simpa using b, ?_⟩
      clear a b
      induction l with
      | nil => intro zs hz; cases hz
      | cons x r ih =>
        simp only [firstE] at h
        by_cases c : checkE x n ≠ 0
        · rw [if_pos c] at h; exact absurd h c
        · rw [if_neg c] at h
          intro zs hz
          rcases List.mem_cons.1 hz with rfl | hz
          · simpa using c
          · exact ih h zs hz
end Go.Proofs.YtgcnijmmjlfabaaGreatDoor

namespace Go.Proofs.YtgcnijmmjlfabaaGreatDoor
open Go.RowKit Go.Shelf

def oneL (t : Tri) : List (Int × Int) := List.replicate t.2.2.toNat (t.1, t.2.1)
/-- The ends of all single edges. -/
def singL (es : List Tri) : List (Int × Int) := es.flatMap oneL
theorem sing_take {es : List Tri} {k : Nat} {t : Tri} (h : Hid (es[k]? = some t)) : singL (es.take (k + 1)) = singL (es.take k) ++ oneL t := by
  rw [take_tri h]; simp [singL]
theorem sing_split {es : List Tri} {k : Nat} {t : Tri} (h : Hid (es[k]? = some t)) : singL es = singL (es.take k) ++ (oneL t ++ singL (es.drop (k + 1))) := by
  have e : es = es.take k ++ t :: es.drop (k + 1) := by rw [← drop_at h, List.take_append_drop]
  conv => lhs; rw [e]
  simp [singL]
theorem sing_len : ∀ (es : List Tri), (singL es).length = (es.map fun t => t.2.2.toNat).sum := by
  intro es
  induction es with
  | nil => rfl
  | cons t r ih => simp only [singL, List.flatMap_cons, List.length_append, List.map_cons, List.sum_cons] at ih ⊢; rw [ih]; simp [oneL]

end Go.Proofs.YtgcnijmmjlfabaaGreatDoor

namespace Go.Proofs.YtgcnijmmjlfabaaGreatDoor
open Go.RowKit Go.Shelf
attribute [local go_sem] Oper.semAt_some

def flatP (ps : List (Int × Int)) : List Value := ps.flatMap fun p => [.int .i64 p.1, .int .i64 p.2]
/-- A slice of pairs that the call owns. -/
def OP (w : World) (B : Nat) (v : Value) (ps : List (Int × Int)) : Prop := w.ownsRow B 141 2 v ps.length (flatP ps) ∧ ps.length ≤ 1000000
theorem OP.below {w w' : World} {B : Nat} {v : Value} {ps : List (Int × Int)} (h : OP w B v ps) (hb : Below w.heap.size w w') : OP w' B v ps :=
  ⟨h.1.kept (row := none) ⟨hb.os, hb.tape, hb.output, hb.size, fun k hk _ => hb.block k hk⟩ (by cases v.ownBlock <;> simp), h.2⟩
theorem OP.nil_ (w : World) (B : Nat) : OP w B (.slice none 0 0) [] := ⟨World.ownsRow_nil w B _ 2, by simp⟩
theorem OP.shape {w : World} {B : Nat} {v : Value} {ps : List (Int × Int)} (h : OP w B v ps) : ∃ A c, v = .slice A ps.length c := by
  rcases h.1.2 with ⟨rfl, hn⟩ | ⟨g, cap, cur, rfl, _⟩
  · exact ⟨none, 0, by rw [hn]⟩
  · exact ⟨_, cap, rfl⟩
theorem OP.shape1 {w : World} {B : Nat} {v : Value} {ps : List (Int × Int)} (h : OP w B v ps) (hl : 1 ≤ ps.length) : ∃ g cap, v = .slice (some ⟨g, 0, none⟩) ps.length cap ∧ B ≤ g ∧ g < w.heap.size := by
  rcases h.1.2 with ⟨_, hn⟩ | ⟨g, cap, cur, rfl, hg, hh, _⟩
  · omega
  · exact ⟨g, cap, rfl, hg, lt_of_block hh⟩
theorem OP.block_ {w : World} {B : Nat} {v : Value} {ps : List (Int × Int)} (h : OP w B v ps) {g : Nat} (hg : v.ownBlock = some g) : ∃ cur, w.heap[g]? = some (.cells cur 141 (0, 0)) ∧ B ≤ g ∧ g < w.heap.size := by
  rcases h.1.2 with ⟨rfl, _⟩ | ⟨g', cap, cur, rfl, hB, hh, _⟩
  · simp [Value.ownBlock] at hg
  · simp only [Value.ownBlock, Option.some.injEq] at hg
    subst hg
    exact ⟨cur, hh, hB, lt_of_block hh⟩
theorem OP.mono {w : World} {B B' : Nat} {v : Value} {ps : List (Int × Int)} (h : OP w B v ps) (hB : B' ≤ B) : OP w B' v ps := ⟨OV.mono_own h.1 hB, h.2⟩
/-- An own list of pairs with one more behind it. -/
theorem run_append_pair {P : Program} (w : World) (t ty : TypeId) (i : TypeInfo) (z : Value) (bytes : Nat) (ht : P.underlying t = some (.slice 141)) (hi : P.info? 141 = some i) (hz : i.zero = some z)
    (hsize : i.size = 2) (hby : i.bytes = bytes) (hby2 : bytes ≤ 1000) (hzs : z.cells.size = 2) (B : Nat) (v : Value) (ps : List (Int × Int)) (hown : OP w B v ps) (a b : Int) (hb : ps.length ≤ 999999) (hB : B ≤ w.heap.size) :
    ∃ g cap w', (Builtin.append_ #[t, t] ty #[v, .slice (some ⟨w.heap.size, 0, none⟩) 1 1]).run P (w.alloc (.cells #[.int .i64 a, .int .i64 b] 141)) = .ok (.slice (some ⟨g, 0, none⟩) (ps.length + 1) cap) w' ∧
      OP w' B (.slice (some ⟨g, 0, none⟩) (ps.length + 1) cap) (ps ++ [(a, b)]) ∧ (w.alloc (.cells #[.int .i64 a, .int .i64 b] 141)).grownBy w' v.ownBlock ∧ (v.ownBlock = some g ∨ g = w.heap.size + 1) := by
  have hm : (ps.length + 1) * bytes ≤ 1000001 * 1000 := Nat.mul_le_mul (by omega) hby2
  obtain ⟨v', w', hrun, ho, hg, -, hat⟩ := run_append_own_at (P := P) (w.alloc (.cells #[.int .i64 a, .int .i64 b] 141)) B t ty 141 i z 2 bytes ht hi hz hsize hby hzs (by omega) v ps.length (flatP ps) (OP.below hown (below_alloc w _)).1
    ⟨w.heap.size, 0, none⟩ 1 1 [.int .i64 a, .int .i64 b] rfl (fun j u hu => by
      have h := (BL.new' w #[.int .i64 a, .int .i64 b] 141).cell j
      have e : (⟨w.heap.size, 0, none⟩ : Addr).add j = ⟨w.heap.size, j, none⟩ := by unfold Addr.add; split <;> simp_all
      rw [e, h]; exact hu) (fun u hu => by
      simp only [List.mem_cons, List.not_mem_nil, or_false] at hu
      rcases hu with rfl | rfl <;> rfl) (by unfold maxLen; omega) (by omega) (by simp; omega)
  have hown' : OP w' B v' (ps ++ [(a, b)]) := ⟨by simpa [flatP] using ho, by simp; omega⟩
  obtain ⟨g, cap, rfl, -, -⟩ := hown'.shape1 (by simp)
  simp only [List.length_append, List.length_singleton] at hrun hown'
  refine ⟨g, cap, w', hrun, hown', hg, ?_⟩
  rcases hat with h | h
  · exact .inl (by rw [← h]; rfl)
  · right
    simp only [Value.ownBlock, World.size_alloc, Option.some.injEq] at h
    exact h
theorem pair_info : (Tryz.prog.info? 141).map (fun i => (i.zero, i.size, i.bytes)) = some (some (.agg #[.int .i64 0, .int .i64 0]), 2, 16) := by kernel_rfl
theorem info_parts' {P : Program} {e : TypeId} {z : Value} {a b : Nat} (h : (P.info? e).map (fun i => (i.zero, i.size, i.bytes)) = some (some z, a, b)) : ∃ i, P.info? e = some i ∧ i.zero = some z ∧ i.size = a ∧ i.bytes = b := by
  cases hq : P.info? e with
  | none => simp [hq] at h
  | some i =>
    simp only [hq, Option.map_some, Option.some.injEq, Prod.mk.injEq] at h
    exact ⟨i, rfl, h.1, h.2.1, h.2.2⟩
end Go.Proofs.YtgcnijmmjlfabaaGreatDoor

namespace Go.Proofs.YtgcnijmmjlfabaaGreatDoor
open Go.RowKit Go.Shelf

theorem wgt_snoc (es : List Tri) (t : Tri) (v u : Nat) : wgt (es ++ [t]) v u = wgt es v u + ew t v u := by
  induction es with
  | nil => simp [wgt]
  | cons x r ih => simp only [List.cons_append, wgt, ih]; omega
end Go.Proofs.YtgcnijmmjlfabaaGreatDoor

namespace Go.Proofs.YtgcnijmmjlfabaaGreatDoor
open Go.RowKit Go.Shelf

/-- The contract of an iterator, with a word on the world that it leaves: whatever is said of the items that have come abides its own steps R; a round that goes on keeps Kp. -/
def IterW {α : Type} (P : Program) (gf : FuncId) (lb : Array Value) (encs : α → Array Value) (It : List α → α → World → Prop) (R Kp : World → World → Prop) (S Sp : List α → World → Prop) (Pre : World → Prop) : Prop :=
  ∀ (n l : Nat) (J Jx : List α → World → Prop) (W : World), Pre W → (∀ pre A B, J pre A → R A B → J pre B) → (∀ pre A B, Jx pre A → R A B → Jx pre B) →
    (∀ pre x W1, J pre W1 → It pre x W1 → YieldAt Fence.wide (n - 1) P l (encs x) W1 fun e W' =>
      (e = .returned (.bool true) ∧ J (pre ++ [x]) W' ∧ Kp W1 W') ∨ (e = .returned (.bool false) ∧ Jx (pre ++ [x]) W')) →
    J [] W →
    CallsIn Fence.wide n P gf (#[.func (.yield l) #[] #[]] ++ lb) W fun e W' => (∃ v, e = .returned v) ∧ ((∃ xs, S xs W' ∧ J xs W') ∨ (∃ pre, Sp pre W' ∧ Jx pre W'))

variable {P : Program}
theorem wpIn_rangeFunc_iterW {α : Type} {g : Operand} {ps : Array Tmp} {assign body : Code} {Q : Exit → Act → World → Prop} {a : Act} {w : World} {n : Nat}
    {gf : Nat} {lb : Array Value} (hg : a.eval g = .func (.func gf) #[] lb) (eg : ∀ args w, (callFunc gf args).run P w = .ok (.enter gf args) w)
    {encs : α → Array Value} {It : List α → α → World → Prop} {R Kp : World → World → Prop} {S Sp : List α → World → Prop} {Pre : World → Prop}
    (hseq : IterW P gf lb encs It R Kp S Sp Pre) (hps : ∀ x, (encs x).size = ps.size)
    (hR : ∀ A B, R A B → A.heap.size ≥ w.heap.size + 2 → KeepLD w.heap.size A B)
    (hKt : ∀ A B C, Kp A B → Kp B C → Kp A C) (hKp : ∀ (W : World) (r : Loop) (o : Obj), W.heap[w.heap.size + 1]? = some (.loop r) → Kp W (W.putObj (w.heap.size + 1) o))
    (hIt : ∀ pre x (W : World) (r : Loop) (o : Obj), It pre x W → W.heap[w.heap.size + 1]? = some (.loop r) → It pre x (W.putObj (w.heap.size + 1) o))
    (hSk : ∀ xs (W : World) (r : Loop) (o : Obj), S xs W → W.heap[w.heap.size + 1]? = some (.loop r) → S xs (W.putObj (w.heap.size + 1) o))
    (hSpk : ∀ xs (W : World) (r : Loop) (o : Obj), Sp xs W → W.heap[w.heap.size + 1]? = some (.loop r) → Sp xs (W.putObj (w.heap.size + 1) o))
    (I : List α → World → Prop) (Ix : Code → List α → World → Prop)
    (hI : ∀ pre (W : World) (r : Loop) (o : Obj), I pre W → W.heap[w.heap.size + 1]? = some (.loop r) → I pre (W.putObj (w.heap.size + 1) o))
    (hIx : ∀ c pre (W : World) (r : Loop) (o : Obj), Ix c pre W → W.heap[w.heap.size + 1]? = some (.loop r) → Ix c pre (W.putObj (w.heap.size + 1) o))
    (hIR : ∀ pre A B, I pre A → R A B → I pre B) (hIxR : ∀ c pre A B, Ix c pre A → R A B → Ix c pre B)
    (hpre : ∀ r, Pre ((w.alloc (.deferred (some []))).alloc (.loop r))) (h0 : ∀ r, I [] ((w.alloc (.deferred (some []))).alloc (.loop r))) (a₁ : α → Act)
    (hassign : ∀ (l : Nat) (x : α) (W : World) (K : Act → World → Prop), K (a₁ x) W →
      assign.wpIn (Fence.wide.inRound l) (n - 1 - 1) P (Exit.then K (fun _ _ _ => False)) { tmps := (ps.zip (encs x)).foldl (fun t (p, v) => t.setIfInBounds p v) a.tmps, defers := [] } W)
    (hbody : ∀ (l : Nat) (pre : List α) (x : α) (W : World) (r : Loop), I pre W → It pre x W → W.heap[w.heap.size + 1]? = some (.loop r) → W.heap[w.heap.size]? = some (.deferred (some [])) →
      body.wpIn (Fence.wide.inRound l) (n - 1 - 1) P (iterPost w.heap.size Kp I Ix (pre ++ [x]) W) (a₁ x) W)
    (hdone : ∀ (xs : List α) (W : World), S xs W → I xs W → W.heap[w.heap.size]? = some (.deferred (some [])) → Q .normal { a with defers := { target := .collected w.heap.size, args := #[] } :: a.defers } W)
    (hstop : ∀ (c : Code) (pre : List α) (W : World), Sp pre W → Ix c pre W → W.heap[w.heap.size]? = some (.deferred (some [])) → c.wpIn Fence.wide n P Q { a with defers := { target := .collected w.heap.size, args := #[] } :: a.defers } W) :
    (Code.rangeFunc g ps assign body).wpIn Fence.wide n P Q a w := by
  refine wpIn_rangeFunc ?_
  intro fn _
  obtain ⟨rec, hrec⟩ : ∃ rec : LoopState → Option Code → Loop, rec = fun st pe => { state := st, pending := pe, fn, tmps := a.tmps, params := ps, assign, body, defers := w.heap.size } := ⟨_, rfl⟩
  obtain ⟨W1, hW1⟩ : ∃ W1, (w.alloc (.deferred (some []))).alloc (.loop (rec .ready none)) = W1 := ⟨_, rfl⟩
  have hL1 : W1.heap[w.heap.size + 1]? = some (.loop (rec .ready none)) := by
    rw [← hW1]; have := World.alloc_heap_new (w.alloc (.deferred (some []))) (.loop (rec .ready none)); rwa [World.size_alloc] at this
  have hK1 : W1.heap[w.heap.size]? = some (.deferred (some [])) := by
    rw [← hW1]; exact (Below.heap_alloc _ _ _ (by simp)).trans (World.alloc_heap_new w _)
  refine ⟨w.heap.size + 1, [{ target := .collected w.heap.size, args := #[] }], W1, { target := .fn (.func gf) lb, args := #[.func (.yield (w.heap.size + 1)) #[] #[]] }, W1, gf,
    #[.func (.yield (w.heap.size + 1)) #[] #[]] ++ lb, W1, ?_, ?_, ?_, ?_, ?_, ?_⟩
  · rw [← hW1, hrec]; exact run_enterLoop_outer _ _ _ _ _
  · simp only [resolve, hg]
    simp [go_sem]
  · intro f' _; trivial
  · simp [invoke, go_sem, eg]
  · intro h; simp [Fence.wide] at h
  · refine (hseq (n - 1) (w.heap.size + 1)
      (fun pre W => I pre W ∧ W.heap[w.heap.size + 1]? = some (.loop (rec .ready none)) ∧ W.heap[w.heap.size]? = some (.deferred (some [])))
      (fun pre W => ∃ c, Ix c pre W ∧ W.heap[w.heap.size + 1]? = some (.loop (rec .done (some c))) ∧ W.heap[w.heap.size]? = some (.deferred (some [])))
      W1 (hW1 ▸ hpre _) ?_ ?_ ?_ ⟨hW1 ▸ h0 _, hL1, hK1⟩).mono ?_
    · rintro pre A B ⟨hi, hl, hk⟩ hr
      have := hR A B hr (by have := (Array.getElem?_eq_some_iff.1 hl).1; omega)
      exact ⟨hIR _ _ _ hi hr, this.2.trans hl, this.1.trans hk⟩
    · rintro pre A B ⟨c, hi, hl, hk⟩ hr
      have := hR A B hr (by have := (Array.getElem?_eq_some_iff.1 hl).1; omega)
      exact ⟨c, hIxR _ _ _ _ hi hr, this.2.trans hl, this.1.trans hk⟩
    · rintro pre x W ⟨hi, hl, hk⟩ hit
      have hlt : w.heap.size + 1 < W.heap.size := (Array.getElem?_eq_some_iff.1 hl).1
      have hy := run_yield (P := P) (args := encs x) hl (by rw [hrec]; exact hps x)
      rw [hrec] at hy
      refine ⟨fn, _, assign, body, hy, roundIn_of_wpIn trivial (hassign _ x W _ ⟨_, run_beginRound hl (by rw [hrec]), ?_⟩)⟩
      have hl2 : (W.putObj (w.heap.size + 1) (.loop { rec .ready none with state := .busy })).heap[w.heap.size + 1]? = some (.loop { rec .ready none with state := .busy }) := World.putObj_heap_same hlt
      have hk2 : (W.putObj (w.heap.size + 1) (.loop { rec .ready none with state := .busy })).heap[w.heap.size]? = some (.deferred (some [])) := (World.putObj_heap_other (by omega)).trans hk
      have hw2 : Kp W (W.putObj (w.heap.size + 1) (.loop { rec .ready none with state := .busy })) := hKp _ _ _ hl
      refine wpIn_mono (hbody _ pre x _ _ (hI _ _ _ _ hi hl) (hIt _ _ _ _ _ hit hl) hl2 hk2) ?_
      have fin : ∀ (jump : Option Code) (W3 : World), KeepLD w.heap.size (W.putObj (w.heap.size + 1) (.loop { rec .ready none with state := .busy })) W3 →
          (Instr.endRound (w.heap.size + 1) jump).run P W3 = .ok (.bool jump.isNone) (W3.putObj (w.heap.size + 1) (.loop (rec (if jump.isNone then .ready else .done) jump))) ∧
          W3.heap[w.heap.size + 1]? = some (.loop { rec .ready none with state := .busy }) ∧
          (W3.putObj (w.heap.size + 1) (.loop (rec (if jump.isNone then .ready else .done) jump))).heap[w.heap.size + 1]? = some (.loop (rec (if jump.isNone then .ready else .done) jump)) ∧
          (W3.putObj (w.heap.size + 1) (.loop (rec (if jump.isNone then .ready else .done) jump))).heap[w.heap.size]? = some (.deferred (some [])) := fun jump W3 hk3 => by
        have hl3 := hk3.2.trans hl2
        have := run_endRound (P := P) jump hl3
        rw [hrec] at this ⊢
        exact ⟨this, by rw [hrec] at hl3; exact hl3, World.putObj_heap_same (Array.getElem?_eq_some_iff.1 hl3).1, (World.putObj_heap_other (by omega)).trans (hk3.1.trans hk2)⟩
      rintro e a3 W3 hp
      cases e with
      | normal =>
        obtain ⟨hk3, hkp3, hi3⟩ := hp
        obtain ⟨hr, hl3, hl4, hk4⟩ := fin none W3 hk3
        exact ⟨_, _, hr, .inl ⟨rfl, ⟨hI _ _ _ _ hi3 hl3, hl4, hk4⟩, hKt _ _ _ (hKt _ _ _ hw2 hkp3) (hKp _ _ _ hl3)⟩⟩
      | ret =>
        obtain ⟨hk3, hi3⟩ := hp
        obtain ⟨hr, hl3, hl4, hk4⟩ := fin (some .ret) W3 hk3
        exact ⟨_, _, hr, .inr ⟨rfl, .ret, hIx _ _ _ _ _ hi3 hl3, hl4, hk4⟩⟩
      | exit id =>
        obtain ⟨hk3, hi3⟩ := hp
        obtain ⟨hr, hl3, hl4, hk4⟩ := fin (some (.exit id)) W3 hk3
        exact ⟨_, _, hr, .inr ⟨rfl, .exit id, hIx _ _ _ _ _ hi3 hl3, hl4, hk4⟩⟩
      | goto t =>
        obtain ⟨hk3, hi3⟩ := hp
        obtain ⟨hr, hl3, hl4, hk4⟩ := fin (some (.goto t)) W3 hk3
        exact ⟨_, _, hr, .inr ⟨rfl, .goto t, hIx _ _ _ _ _ hi3 hl3, hl4, hk4⟩⟩
      | panic ch => exact hp.elim
      | outgrown => exact hp.elim
    · rintro e W2 ⟨⟨v, rfl⟩, (⟨xs, hS, hi, hl, hk⟩ | ⟨pre, hSp, c, hi, hl, hk⟩)⟩
      · exact ⟨none, _, by have := run_endLoop (P := P) hl (by rw [hrec]; simp); rw [hrec] at this; exact this, hdone xs _ (hSk _ _ _ _ hS hl) (hI _ _ _ _ hi hl) ((World.putObj_heap_other (by omega)).trans hk)⟩
      · exact ⟨some c, _, by have := run_endLoop (P := P) hl (by rw [hrec]; simp); rw [hrec] at this; exact this, hstop c pre _ (hSpk _ _ _ _ hSp hl) (hIx _ _ _ _ _ hi hl) ((World.putObj_heap_other (by omega)).trans hk)⟩
end Go.Proofs.YtgcnijmmjlfabaaGreatDoor

namespace Go.Proofs.YtgcnijmmjlfabaaGreatDoor
open Go.RowKit Go.Shelf

theorem one_ones {u : Value} (h : u.oneCell' = true) : ∀ x ∈ [u], x.oneCell' = true := by simp [h]
theorem RV.ones (w : World) (u : Value) (e : TypeId) : RV (w.alloc (.cells #[u] e)) (.slice (some ⟨w.heap.size, 0, none⟩) 1 1) [u] := RV.lit w #[u] e 1 rfl (by omega)
end Go.Proofs.YtgcnijmmjlfabaaGreatDoor

namespace Go.Proofs.YtgcnijmmjlfabaaGreatDoor
open Go.RowKit Go.Shelf
attribute [local go_sem] Oper.semAt_some

theorem own_lit (w : World) (z : Int) : OI (w.alloc (.cells #[.int .i64 z] 3)) w.heap.size (.slice (some ⟨w.heap.size, 0, none⟩) 1 1) [z] := by
  refine ⟨⟨by simp, .inr ⟨w.heap.size, 1, #[.int .i64 z], by simp, Nat.le_refl _, heap_alloc_new w _, by simp, by unfold maxLen; omega, by simp, by simp⟩⟩, by simp⟩
end Go.Proofs.YtgcnijmmjlfabaaGreatDoor

namespace Go.Proofs.YtgcnijmmjlfabaaGreatDoor
open Go.RowKit Go.Shelf
attribute [local go_sem] Oper.semAt_some

theorem yieldAt_any {m m' : Nat} {P : Program} {l : Nat} {args : Array Value} {W : World} {R : Ending → World → Prop} (h : YieldAt Fence.wide m P l args W R) : YieldAt Fence.wide m' P l args W R := by
  obtain ⟨fn, tmps, assign, body, h1, h2, h3⟩ := h
  exact ⟨fn, tmps, assign, body, h1, h2, fun c cs _ => h3 c cs (room_wide _)⟩
end Go.Proofs.YtgcnijmmjlfabaaGreatDoor

namespace Go.Proofs.YtgcnijmmjlfabaaGreatDoor
open Go.RowKit Go.Shelf
attribute [local go_sem] Oper.semAt_some

theorem run_store_func (P : Program) (w : World) (a : Addr) (m : Mode) (f : Fn) (b c : Array Value) : (store a (.func f b c) m).run P w = stored P w a (.func f b c) m := run_store P w a _ m rfl
attribute [local go_sem] run_store_func
end Go.Proofs.YtgcnijmmjlfabaaGreatDoor

namespace Go.Proofs.YtgcnijmmjlfabaaGreatDoor
open Go.RowKit Go.Shelf
attribute [local go_sem] Oper.semAt_some run_store_func

theorem run_loadVar_cell1 {P : Program} (w : World) (t : TypeId) (a : Addr) (v : Value) (d : TypeDesc) (hu : P.underlying t = some d) (hd : (match d with | .struct _ | .array _ _ => true | _ => false) = false)
    (hc : w.cell? a = some v) : (loadVar t a).run P w = .ok v w := by
  have hagg : (isAgg t).run P w = .ok false w := by
    unfold isAgg
    rw [Sem.run_bind, run_underlying hu w]
    cases d <;> simp_all
  simp [loadVar, Sem.run_bind, hagg, go_sem, hc]
theorem OV.putL {w : World} {B : Nat} {e : TypeId} {v : Value} {us : List Value} (h : OV w B e v us) {l : Nat} {r : Loop} (hl : w.heap[l]? = some (.loop r)) (o : Obj) : OV (w.putObj l o) B e v us := by
  refine ⟨⟨h.1.1, ?_⟩, h.2⟩
  rcases h.1.2 with h2 | ⟨g, cap, cur, hv, hg, hh, r'⟩
  · exact .inl h2
  · refine .inr ⟨g, cap, cur, hv, hg, (World.putObj_heap_other ?_).trans hh, r'⟩
    rintro rfl
    rw [hl] at hh; cases hh
end Go.Proofs.YtgcnijmmjlfabaaGreatDoor

namespace Go.Proofs.YtgcnijmmjlfabaaGreatDoor
open Go.RowKit Go.Shelf
theorem CloneI_any (va : Value) (xs : List Int) (w : World) (ha : RI w va xs) (hl : xs.length ≤ 17592186044415 := by omega) :
    Calls Tryz.prog 142 #[va] w fun e w' => ∃ v, e = .returned v ∧ OI w' w.heap.size v xs ∧ Below w.heap.size w w' := by
  obtain ⟨A, c, rfl, hlc, hc, hcell⟩ := ha.open_
  obtain ⟨i0, hi, hz0, hz1, hz2⟩ := info_parts int_info
  have hq := fun W : World => Lib.run_eql_slice_nil (P := Tryz.prog) W 42 3 A xs.length c 0 0 Tryz.underlying42
  have HRA := Lib.hid ha
  rcases A with _ | ad
  · have hn : xs.length = 0 := by
      rcases Nat.eq_zero_or_pos xs.length with h | h
      · exact h
      · obtain ⟨ad, z, h, _⟩ := hcell 0 h; cases h
    have HN := Lib.hid (List.eq_nil_of_length_eq_zero hn)
    simp only [Option.isNone_none] at hq
    clear hcell ha hn
    go_enter Tryz.func142, Tryz.ntmps142
    go_wp2
    refine bodyPost_ret (results_tmp rfl _ _ _) rfl ⟨.slice none 0 0, rfl, ?_, Below.refl _ _⟩
    rw [HN.out]; exact OI.nil_ _ _
  · simp only [Option.isNone_some] at hq
    have hr1 := Lib.hid (ha.below (below_alloc w (.cells #[] 3)))
    have ho := Lib.hid (show OV (w.alloc (.cells #[] 3)) w.heap.size 3 (.slice (some ⟨w.heap.size, 0, none⟩) 0 0) [] from
      ⟨World.ownsRow_made w #[] 0 (Nat.le_refl _) (by unfold maxLen; omega) (by simp), by simp⟩)
    have HX := Lib.hid (ints_one xs)
    clear hcell ha
    go_enter Tryz.func142, Tryz.ntmps142
    go_wp2_with (at_builtin; refine wpList_appendV _ rfl _ _ _ rfl 3 i0 _ 8 Tryz.underlying42 hi hz0 hz1 hz2 rfl w.heap.size _ [] rfl ho.out _ _ rfl hr1.out HX.out (by simpa using hl) (by simp; omega) (by simp) ?_; intro v1 w1 hown1 hg1 hat1)
    refine bodyPost_ret (results_tmp rfl _ _ _) rfl ⟨v1, rfl, by simpa [OI] using hown1, ?_⟩
    exact below_own (below_alloc w _) (by simp) ho.out hg1

end Go.Proofs.YtgcnijmmjlfabaaGreatDoor

namespace Go.Proofs.YtgcnijmmjlfabaaGreatDoor
open Go.RowKit Go.Shelf

def es3 : List Tri := [(0, 1, 1), (0, 2, 1), (1, 2, 1)]
end Go.Proofs.YtgcnijmmjlfabaaGreatDoor

namespace Go.Proofs.YtgcnijmmjlfabaaGreatDoor
open Go.RowKit Go.Shelf

theorem In_any (k : Int) (w : World) : Calls Tryz.prog 158 #[.int .i64 k] w fun e w' => e = .returned (.bool (InB k)) ∧ w = w' := by
  go_enter Tryz.func158, Tryz.ntmps158
  go_wp2
  all_goals (go_ret; exact ⟨by simp [InB, *]; try omega, rfl⟩)

theorem rCheck_any (v : Value) (zs : List Int) (n : Int) (w : World) (hv : RI w v zs) :
    Calls Tryz.prog 123 #[v, .int .i64 n] w fun e w' => e = .returned (.int .i64 (checkE zs n)) ∧ w = w' := by
  obtain ⟨A, c, rfl, hlc, hc, hcell⟩ := hv.open_
  have HC := Lib.hid hcell
  clear hcell hv
  by_cases h1 : n < 1
  · go_enter Tryz.func123, Tryz.ntmps123
    go_wp2
    go_ret
    exact ⟨ret_i (by simp [checkE, h1]), rfl⟩
  by_cases h1' : 12 < n
  · go_enter Tryz.func123, Tryz.ntmps123
    go_wp2
    go_ret
    exact ⟨ret_i (by simp [checkE, h1']), rfl⟩
  have H1 := Lib.hid (show ¬ (n < 1 ∨ 12 < n) by omega)
  by_cases h2 : (zs.length : Int) = n
  · have e2 : ((zs.length : Int) != n) = false := by simp [h2]
    have H2 := Lib.hid h2
    have h2' : (zs.length : Int) ≤ n ∧ n ≤ zs.length := by omega
    clear h2
    go_enter Tryz.func123, Tryz.ntmps123
    go_wp2
    go_loop [5] (fun i => ∃ k : Nat, k ≤ zs.length ∧ i = .int .i64 k ∧ Hid ((zs.drop k).all InB = zs.all InB)) (fun i => zs.length - (intOf i).toNat)
    case atStart => exact ⟨0, Nat.zero_le _, rfl, rfl⟩
    case round =>
      obtain ⟨k, hk, rfl, hr⟩ := hrel
      by_cases hlt : k < zs.length
      · obtain ⟨ad, z, rfl, _, hz, hcl⟩ := HC.out k hlt
        clear HC
        have hd := Lib.hid (drop_at hz)
        have hlt2 : (k : Int) < n := by omega
        cases hb : InB z
        · go_wp2_with (go_at_call 158; refine (In_any _ _).mono ?_; rintro e w' ⟨rfl, rfl⟩)
          go_ret
          refine ⟨ret_i ?_, rfl⟩
          have := hr.out; rw [hd.out] at this
          simp only [checkE, if_neg H1.out, H2.out, ← this]
          simp [hb]
        · go_wp2_with (go_at_call 158; refine (In_any _ _).mono ?_; rintro e w' ⟨rfl, rfl⟩)
          go_round
          case rel => exact ⟨k + 1, by omega, by go_num, by have := hr.out; rw [hd.out] at this; simpa [Hid, hb] using this⟩
          case measure => simp [intOf]; omega
      · have hlt2 : n ≤ (k : Int) := by omega
        go_wp2
        go_ret
        refine ⟨ret_i ?_, rfl⟩
        have := hr.out; rw [List.drop_of_length_le (by omega)] at this
        simp only [checkE, if_neg H1.out, H2.out, ← this]
        simp
  · have e2 : ((zs.length : Int) != n) = true := by simp [h2]
    have H2 := Lib.hid h2
    clear h2
    go_enter Tryz.func123, Tryz.ntmps123
    go_wp2
    go_ret
    exact ⟨ret_i (by simp [checkE, H1.out, H2.out]), rfl⟩

theorem rVertex_any (g : Value) (n : Int) (es : List Tri) (v : Int) (w : World) (hg : GV w g n es) :
    Calls Tryz.prog 101 #[g, .int .i64 v] w fun e w' => e = .returned (.bool (vtxB n v)) ∧ Below w.heap.size w w' := by
  obtain ⟨A, c, rfl, -⟩ := hg.open_
  clear hg
  by_cases h1 : 0 ≤ v
  · by_cases h2 : v < n
    · go_enter Tryz.func101, Tryz.ntmps101
      go_wp2
      go_ret
      exact ⟨ret_b (by simp [vtxB, h1, h2]), below_alloc w _⟩
    · go_enter Tryz.func101, Tryz.ntmps101
      go_wp2
      go_ret
      exact ⟨ret_b (by simp [vtxB, h2]), below_alloc w _⟩
  · go_enter Tryz.func101, Tryz.ntmps101
    go_wp2
    go_ret
    exact ⟨ret_b (by simp [vtxB]; omega), below_alloc w _⟩
/-- The edge ahead of one. -/
def lastE (es : List Tri) : Nat → Int × Int
  | 0 => (-1, -1)
  | j + 1 => ((es.getD j (0, 0, 0)).1, (es.getD j (0, 0, 0)).2.1)
theorem okE_back {n la lb a b m : Int} (h1 : vtxB n a = true) (h2 : vtxB n b = true) (h3 : ¬ m < 1) (h4 : ¬ 50 < m) (h5 : a ≤ b) : okE n (la, lb) (a, b, m) = if a < la ∨ (a = la ∧ b ≤ lb) then 9 else 0 := by
  rw [vtxB_iff] at h1 h2
  unfold okE
  simp only
  rw [if_neg (by omega)]
  by_cases h : a < la ∨ (a = la ∧ b ≤ lb)
  · rw [if_pos (.inr h), if_pos h]
  · rw [if_neg (by omega), if_neg h]
theorem okE_cross {n la lb a b m : Int} (h1 : vtxB n a = true) (h2 : vtxB n b = true) (h3 : ¬ m < 1) (h4 : ¬ 50 < m) (h5 : b < a) : okE n (la, lb) (a, b, m) = 9 := by
  rw [vtxB_iff] at h1 h2
  unfold okE
  simp only
  rw [if_neg (by omega), if_pos (.inl h5)]
theorem edge_any (g : Value) (n : Int) (es : List Tri) (k : Nat) (t : Tri) (w : World) (hg : GV w g n es) (ht : es[k]? = some t) :
    Calls Tryz.prog 57 #[g, .int .i64 (k : Int)] w fun e w' => e = .returned (.int .i64 (okE n (lastE es k) t)) ∧ Below w.heap.size w w' := by
  obtain ⟨A, c, rfl, hlc, hc, hcell⟩ := hg.open_
  have hk : k < es.length := by
    by_cases h : k < es.length
    · exact h
    · rw [List.getElem?_eq_none (by omega)] at ht; cases ht
  obtain ⟨ad, a, b, m, rfl, hab, ht', c1, c2, c3⟩ := hcell k hk
  obtain rfl : (a, b, m) = t := Option.some.inj (ht'.out.symm.trans ht)
  obtain ⟨W0, hW0⟩ : ∃ W0, W0 = w.alloc (.cells #[.int .i64 n, .slice (some ad) es.length c] 24) := ⟨_, rfl⟩
  have hb0 : Below w.heap.size w W0 := by rw [hW0]; exact below_alloc w _
  have hz0 : W0.heap.size = w.heap.size + 1 := by rw [hW0]; simp
  have hx0 : BL W0 w.heap.size 24 [.int .i64 n, .slice (some ad) es.length c] := by rw [hW0]; exact BL.new' w _ _
  obtain ⟨d1, d2, d3⟩ := tri_cells hb0 hab c1 c2 c3
  obtain ⟨W1, hW1⟩ : ∃ W1, W1 = W0.alloc (.cells #[.int .i64 a, .int .i64 b, .int .i64 m] 52) := ⟨_, rfl⟩
  have hb1 : Below W0.heap.size W0 W1 := by rw [hW1]; exact below_alloc W0 _
  have hx1 : BL W1 (w.heap.size + 1) 52 [.int .i64 a, .int .i64 b, .int .i64 m] := by rw [hW1, ← hz0]; exact BL.new' W0 _ _
  have hbb : Below w.heap.size w W1 := hb0.trans (hb1.mono (by omega))
  have HG1 := Lib.hid (hg.below hbb)
  have HX1 := Lib.hid (hx0.bel hb1)
  have HY1 := Lib.hid hx1
  have HBB := Lib.hid hbb
  have HV1 := Lib.hid (rVertex_any _ n es a W1 HG1.out)
  have x0 := hx0.cell 0
  have x1 := hx0.cell 1
  have y0 := HX1.out.cell 0
  have y1 := HX1.out.cell 1
  have z0 := hx1.cell 0
  have z1 := hx1.cell 1
  have z2 := hx1.cell 2
  have HW0 := Lib.hid hW0
  have HW1 := Lib.hid hW1
  have HCe := Lib.hid hcell
  rw [hW0] at x0 x1 d1 d2 d3
  rw [hW1, hW0] at y0 y1 z0 z1 z2
  have hk1 : (k : Int) < es.length := by omega
  clear hg ht hcell ht' c1 c2 c3 hb0 hx0 hb1 hx1 hbb hW0 hW1 hz0
  go_enter Tryz.func57, Tryz.ntmps57
  go_wp2_with fail
  rw [← HW0.out, ← HW1.out]
  refine HV1.out.mono ?_
  rintro e w2 ⟨rfl, hb2⟩
  have HBB2 := Lib.hid (HBB.out.trans (hb2.mono HBB.out.size))
  have HX2 := Lib.hid (HX1.out.bel hb2)
  have HY2 := Lib.hid (HY1.out.bel hb2)
  have HG2 := Lib.hid (HG1.out.below hb2)
  have q0 := HX2.out.cell 0
  have q1 := HX2.out.cell 1
  have r0 := HY2.out.cell 0
  have r1 := HY2.out.cell 1
  have r2 := HY2.out.cell 2
  clear x0 x1 y0 y1 z0 z1 z2 d1 d2 d3 hb2
  cases hA : vtxB n a
  · have HR : Hid (okE n (lastE es k) (a, b, m) = 2) := okE_bad (.inl hA)
    go_wp2
    go_ret
    exact ⟨ret_i HR.out.symm, HBB2.out⟩
  have HV2 := Lib.hid (rVertex_any _ n es b w2 HG2.out)
  go_wp2_with fail
  refine HV2.out.mono ?_
  rintro e w3 ⟨rfl, hb3⟩
  have HBB3 := Lib.hid (HBB2.out.trans (hb3.mono HBB2.out.size))
  have HX3 := Lib.hid (HX2.out.bel hb3)
  have HY3 := Lib.hid (HY2.out.bel hb3)
  have HG3 := Lib.hid (HG2.out.below hb3)
  have p0 := HX3.out.cell 0
  have p1 := HX3.out.cell 1
  have s0 := HY3.out.cell 0
  have s1 := HY3.out.cell 1
  have s2 := HY3.out.cell 2
  clear q0 q1 r0 r1 r2 hb3
  cases hB : vtxB n b
  · have HR : Hid (okE n (lastE es k) (a, b, m) = 2) := okE_bad (.inr (.inl hB))
    go_wp2
    go_ret
    exact ⟨ret_i HR.out.symm, HBB3.out⟩
  by_cases h1 : m < 1
  · have HR : Hid (okE n (lastE es k) (a, b, m) = 2) := okE_bad (.inr (.inr (.inl h1)))
    go_wp2
    go_ret
    exact ⟨ret_i HR.out.symm, HBB3.out⟩
  by_cases h2 : 50 < m
  · have HR : Hid (okE n (lastE es k) (a, b, m) = 2) := okE_bad (.inr (.inr (.inr h2)))
    go_wp2
    go_ret
    exact ⟨ret_i HR.out.symm, HBB3.out⟩
  by_cases h3 : b < a
  · have HR : Hid (okE n (lastE es k) (a, b, m) = 9) := okE_cross hA hB h1 h2 h3
    go_wp2
    go_ret
    exact ⟨ret_i HR.out.symm, HBB3.out⟩
  have HOk : Hid (∀ la lb, okE n (la, lb) (a, b, m) = if a < la ∨ (a = la ∧ b ≤ lb) then 9 else 0) := fun la lb => okE_back hA hB h1 h2 (by omega)
  cases k with
  | zero =>
    have HR : Hid (okE n (lastE es 0) (a, b, m) = 0) := by
      show _ = _
      rw [vtxB_iff] at hA
      show okE n (-1, -1) (a, b, m) = 0
      rw [HOk.out, if_neg (by omega)]
    simp only [Int.natCast_zero] at *
    go_wp2
    go_ret
    exact ⟨ret_i HR.out.symm, HBB3.out⟩
  | succ j =>
    obtain ⟨ad', la, lb, lm, he, -, ht', e1, e2, e3⟩ := HCe.out j (by omega)
    obtain rfl : ad = ad' := by simpa using he
    obtain ⟨d1, d2, d3⟩ := tri_cells HBB3.out hab e1 e2 e3
    have hL : lastE es (j + 1) = (la, lb) := by
      show ((es.getD j (0, 0, 0)).1, (es.getD j (0, 0, 0)).2.1) = _
      rw [List.getD_eq_getElem?_getD, ht'.out]; rfl
    have HR0 : Hid (okE n (lastE es (j + 1)) (a, b, m) = if a < la ∨ (a = la ∧ b ≤ lb) then 9 else 0) := by show _ = _; rw [hL, HOk.out]
    have hj0 : (0 : Int) ≤ (j : Int) := by omega
    have hj1 : (j : Int) < es.length := by omega
    have hj2 : (0 : Int) < (j : Int) + 1 := by omega
    have hj3 : IntKind.i64.wrap ((j : Int) + 1 - 1) = j := by rw [show (j : Int) + 1 - 1 = j by omega]; exact IntWalk.i64_in _ (by omega)
    have HB4 := Lib.hid (HBB3.out.trans ((below_alloc w3 (.cells #[.int .i64 la, .int .i64 lb, .int .i64 lm] 52)).mono HBB3.out.size))
    have hbl : w.heap.size + 1 < w3.heap.size := HY3.out.lt
    have hab3 : ad.block < w3.heap.size := by have := HBB3.out.size; omega
    simp only [Int.natCast_succ] at *
    clear he ht' e1 e2 e3 hL hA hB hk hk1 hab
    by_cases g1 : a < la
    · have HR : Hid (okE n (lastE es (j + 1)) (a, b, m) = 9) := HR0.out.trans (if_pos (.inl g1))
      go_wp2
      go_ret
      exact ⟨ret_i HR.out.symm, HB4.out⟩
    · by_cases g2 : a = la
      · subst g2
        have t2 : (a == a) = true := by simp
        by_cases g3 : b ≤ lb
        · have HR : Hid (okE n (lastE es (j + 1)) (a, b, m) = 9) := HR0.out.trans (if_pos (.inr ⟨rfl, g3⟩))
          go_wp2
          go_ret
          exact ⟨ret_i HR.out.symm, HB4.out⟩
        · have HR : Hid (okE n (lastE es (j + 1)) (a, b, m) = 0) := HR0.out.trans (if_neg (by omega))
          go_wp2
          go_ret
          exact ⟨ret_i HR.out.symm, HB4.out⟩
      · have t2 : (a == la) = false := by simpa using g2
        have HR : Hid (okE n (lastE es (j + 1)) (a, b, m) = 0) := HR0.out.trans (if_neg (by omega))
        go_wp2
        go_ret
        exact ⟨ret_i HR.out.symm, HB4.out⟩
end Go.Proofs.YtgcnijmmjlfabaaGreatDoor

