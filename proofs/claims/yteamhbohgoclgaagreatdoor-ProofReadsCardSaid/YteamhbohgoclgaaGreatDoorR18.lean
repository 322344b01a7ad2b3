/- Reads, then one tail in one order, within a round: with appends. -/
import Derived.Test.YteamhbohgoclgaaGreatDoorR05
import Derived.Deep.RegionHeld3
set_option maxRecDepth 100000
set_option maxHeartbeats 16000000
namespace Go.Proofs.YteamhbohgoclgaaGreatDoor
open Go.RowKit Go.Shelf

def wideOp : Op -> Bool
 | .build .. => true
 | .call { callee := .builtin .append, .. } => true
 | op => simpleOp op
theorem wide_cases {op : Op} (h : wideOp op = true) : simpleOp op = true \/ (∃ t fs, op = .build t fs) \/ ∃ c, op = .call c /\ c.callee = .builtin .append := by
 unfold wideOp at h
 split at h
 · exact .inr (.inl ⟨_, _, rfl⟩)
 · exact .inr (.inr ⟨_, rfl, rfl⟩)
 · exact .inl h
variable {P : Program}
theorem flat_wide {w : World} {ρ : Operand -> Value} {o : Oper} (h : wideOp o.op = true) : Flat ((execOp ρ o).run P w) := by
 rcases wide_cases h with h | ⟨t, fs, ho⟩ | ⟨c, ho, hc⟩
 · exact flat_of h
 · unfold execOp
   rw [ho]
   exact flat_v _
 · obtain ⟨callee, args, argTypes⟩ := c
   dsimp only at hc
   subst hc
   unfold execOp
   simp only [ho, resolve, invoke, builtin, Sem.run_bind, Sem.run_pure, Result.andThen_ok]
   exact flat_then _ _ fun _ _ => trivial
theorem about_wide {w : World} {ρ : Operand -> Value} {o : Oper} (h : wideOp o.op = true) : o.about P w ρ = none := by
 rcases wide_cases h with h | ⟨t, fs, ho⟩ | ⟨c, ho, hc⟩
 · exact about_simple h
 · unfold Oper.about; rw [ho]
 · obtain ⟨callee, args, argTypes⟩ := c
   dsimp only at hc
   subst hc
   simp [Oper.about, ho, resolve, Target.leads, Sem.run_pure]
theorem opIn_wide {l N : Nat} {o : Oper} {a : Act} {w : World} {K : Act -> World -> Prop} {Q : Exit -> Act -> World -> Prop} (hs : wideOp o.op = true) (h : o.wp P a w K Q) : o.wpIn (Fence.wide.inRound l) N P a w K Q := by
 refine ⟨fun _ _ => trivial, ?_⟩
 rw [Oper.semAt_plain (Fence.wide.inRound l) _ _ (by intro c hc; rw [hc] at hs; cases hs)]
 have hf := flat_wide (P := P) (w := w) (ρ := a.eval) hs
 unfold Oper.wp at h
 generalize (execOp a.eval o).run P w = r at h hf
 match r, hf, h with
 | .ok (.value v) w', _, h => exact h
 | .ok .skip w', _, h => exact h
 | .halt (.panic v) w', _, h => exact h
theorem anyIn_wide {l N : Nat} {md : Region.Mode} {ops : Array Oper} {Q : Exit -> Act -> World -> Prop} (hs : ∀ o ∈ ops, wideOp o.op = true) (hQ : ¬ LetsOut Q) (fuel : Nat) (listed : Array Bool) (a : Act) (w : World)
   (h : wpAny P md ops Q fuel listed a w) : wpAnyIn (Fence.wide.inRound l) N P md ops Q fuel listed a w := by
 induction fuel generalizing listed a w with
 | zero => exact h
 | succ fuel ih =>
   refine ⟨h.1, fun i hi => ?_⟩
   have hi' := h.2 i hi
   unfold wpOp at hi'
   unfold wpOpIn
   cases ho : ops[i]? with
   | none => rw [ho] at hi'; exact ih _ _ _ hi'
   | some o =>
     rw [ho] at hi'
     have hm : o ∈ ops := Array.mem_of_getElem? ho
     dsimp only at hi' ⊢
     split at hi'
     · next c =>
       rw [if_pos c]
       rcases hi' with hi' | hi'
       · have := opIn_wide (l := l) (N := N) (hs o hm) hi'
         exact Oper.wpIn_mono (fun a w h => ih _ _ _ h) this
       · exact absurd hi'.2 hQ
     · next c =>
       rw [if_neg c]
       exact ⟨fun f hf => (by rw [about_wide (hs o hm)] at hf; cases hf), ih _ _ _ hi'⟩
theorem wide_held_round {l N id : Nat} {Q : Exit -> Act -> World -> Prop} {a : Act} {w : World} {ops : Array Oper} (S : World -> Prop) (hm : P.follows .mixedOrders = true) (hs : ops.all (fun o => wideOp o.op) = true) (hQ : ¬ LetsOut Q) (hS : S w.drew)
   (h : S w.drew -> wpAnyH P .any ops (NoPanic Q) S ops.size (Array.replicate ops.size false) a w.drew) : (Code.region id ops true).wpIn (Fence.wide.inRound l) N P Q a w := by
 refine Code.wpIn_mono NoPanic.imp ?_
 have K := wpAny_of_held _ _ _ _ (h hS)
 refine wpIn_region_any hm (anyIn_wide (fun o ho => ?_) (fun h0 : LetsOut (NoPanic Q) => by obtain ⟨a, w, h⟩ := h0; exact hQ ⟨a, w, h⟩) _ _ _ _ K)
 exact (Array.all_eq_true_iff_forall_mem.1 hs) o ho
end Go.Proofs.YteamhbohgoclgaaGreatDoor
