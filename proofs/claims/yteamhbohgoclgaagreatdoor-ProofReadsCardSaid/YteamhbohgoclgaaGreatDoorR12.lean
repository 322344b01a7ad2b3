/- A range over a function whose iterator says what it leaves in its own memory. -/
import Derived.Test.YteamhbohgoclgaaGreatDoorR11
import Derived.Deep.DeepCutAuto
set_option maxRecDepth 100000
set_option maxHeartbeats 16000000
namespace Go.Proofs.YteamhbohgoclgaaGreatDoor
open Go.RowKit Go.Shelf

def IterW {α : Type} (P : Program) (gf : FuncId) (lb : Array Value) (encs : α -> Array Value) (It : List α -> α -> World -> Prop) (R Kp : World -> World -> Prop) (S Sp : List α -> World -> Prop) (Pre : World -> Prop) : Prop :=
 ∀ (n l : Nat) (J Jx : List α -> World -> Prop) (W : World), Pre W -> (∀ pre A B, J pre A -> R A B -> J pre B) -> (∀ pre A B, Jx pre A -> R A B -> Jx pre B) ->
   (∀ pre x W1, J pre W1 -> It pre x W1 -> YieldAt Fence.wide (n - 1) P l (encs x) W1 fun e W' =>
     (e = .returned (.bool true) /\ J (pre ++ [x]) W' /\ Kp W1 W') \/ (e = .returned (.bool false) /\ Jx (pre ++ [x]) W')) ->
   J [] W ->
   CallsIn Fence.wide n P gf (#[.func (.yield l) #[] #[]] ++ lb) W fun e W' => (∃ v, e = .returned v) /\ ((∃ xs, S xs W' /\ J xs W') \/ (∃ pre, Sp pre W' /\ Jx pre W'))

variable {P : Program}
theorem wpIn_rangeFunc_iterW {α : Type} {g : Operand} {ps : Array Tmp} {assign body : Code} {Q : Exit -> Act -> World -> Prop} {a : Act} {w : World} {n : Nat}
   {gf : Nat} {lb : Array Value} (hg : a.eval g = .func (.func gf) #[] lb) (eg : ∀ args w, (callFunc gf args).run P w = .ok (.enter gf args) w)
   {encs : α -> Array Value} {It : List α -> α -> World -> Prop} {R Kp : World -> World -> Prop} {S Sp : List α -> World -> Prop} {Pre : World -> Prop}
   (hseq : IterW P gf lb encs It R Kp S Sp Pre) (hps : ∀ x, (encs x).size = ps.size)
   (hR : ∀ A B, R A B -> A.heap.size >= w.heap.size + 2 -> KeepLD w.heap.size A B)
   (hKt : ∀ A B C, Kp A B -> Kp B C -> Kp A C) (hKp : ∀ (W : World) (r : Loop) (o : Obj), W.heap[w.heap.size + 1]? = some (.loop r) -> Kp W (W.putObj (w.heap.size + 1) o))
   (hIt : ∀ pre x (W : World) (r : Loop) (o : Obj), It pre x W -> W.heap[w.heap.size + 1]? = some (.loop r) -> It pre x (W.putObj (w.heap.size + 1) o))
   (hSk : ∀ xs (W : World) (r : Loop) (o : Obj), S xs W -> W.heap[w.heap.size + 1]? = some (.loop r) -> S xs (W.putObj (w.heap.size + 1) o))
   (hSpk : ∀ xs (W : World) (r : Loop) (o : Obj), Sp xs W -> W.heap[w.heap.size + 1]? = some (.loop r) -> Sp xs (W.putObj (w.heap.size + 1) o))
   (I : List α -> World -> Prop) (Ix : Code -> List α -> World -> Prop)
   (hI : ∀ pre (W : World) (r : Loop) (o : Obj), I pre W -> W.heap[w.heap.size + 1]? = some (.loop r) -> I pre (W.putObj (w.heap.size + 1) o))
   (hIx : ∀ c pre (W : World) (r : Loop) (o : Obj), Ix c pre W -> W.heap[w.heap.size + 1]? = some (.loop r) -> Ix c pre (W.putObj (w.heap.size + 1) o))
   (hIR : ∀ pre A B, I pre A -> R A B -> I pre B) (hIxR : ∀ c pre A B, Ix c pre A -> R A B -> Ix c pre B)
   (hpre : ∀ r, Pre ((w.alloc (.deferred (some []))).alloc (.loop r))) (h0 : ∀ r, I [] ((w.alloc (.deferred (some []))).alloc (.loop r))) (a₁ : α -> Act)
   (hassign : ∀ (l : Nat) (x : α) (W : World) (K : Act -> World -> Prop), K (a₁ x) W ->
     assign.wpIn (Fence.wide.inRound l) (n - 1 - 1) P (Exit.then K (fun _ _ _ => False)) { tmps := (ps.zip (encs x)).foldl (fun t (p, v) => t.setIfInBounds p v) a.tmps, defers := [] } W)
   (hbody : ∀ (l : Nat) (pre : List α) (x : α) (W : World) (r : Loop), I pre W -> It pre x W -> W.heap[w.heap.size + 1]? = some (.loop r) -> W.heap[w.heap.size]? = some (.deferred (some [])) ->
     body.wpIn (Fence.wide.inRound l) (n - 1 - 1) P (iterPost w.heap.size Kp I Ix (pre ++ [x]) W) (a₁ x) W)
   (hdone : ∀ (xs : List α) (W : World), S xs W -> I xs W -> W.heap[w.heap.size]? = some (.deferred (some [])) -> Q .normal { a with defers := { target := .collected w.heap.size, args := #[] } :: a.defers } W)
   (hstop : ∀ (c : Code) (pre : List α) (W : World), Sp pre W -> Ix c pre W -> W.heap[w.heap.size]? = some (.deferred (some [])) -> c.wpIn Fence.wide n P Q { a with defers := { target := .collected w.heap.size, args := #[] } :: a.defers } W) :
   (Code.rangeFunc g ps assign body).wpIn Fence.wide n P Q a w := by
 refine wpIn_rangeFunc ?_
 intro fn _
 obtain ⟨rec, hrec⟩ : ∃ rec : LoopState -> Option Code -> Loop, rec = fun st pe => { state := st, pending := pe, fn, tmps := a.tmps, params := ps, assign, body, defers := w.heap.size } := ⟨_, rfl⟩
 obtain ⟨W1, hW1⟩ : ∃ W1, (w.alloc (.deferred (some []))).alloc (.loop (rec .ready none)) = W1 := ⟨_, rfl⟩
 have hL1 : W1.heap[w.heap.size + 1]? = some (.loop (rec .ready none)) := by
   rw [<- hW1]; have := World.alloc_heap_new (w.alloc (.deferred (some []))) (.loop (rec .ready none)); rwa [World.size_alloc] at this
 have hK1 : W1.heap[w.heap.size]? = some (.deferred (some [])) := by
   rw [<- hW1]; exact (Below.heap_alloc _ _ _ (by simp)).trans (World.alloc_heap_new w _)
 refine ⟨w.heap.size + 1, [{ target := .collected w.heap.size, args := #[] }], W1, { target := .fn (.func gf) lb, args := #[.func (.yield (w.heap.size + 1)) #[] #[]] }, W1, gf,
   #[.func (.yield (w.heap.size + 1)) #[] #[]] ++ lb, W1, ?_, ?_, ?_, ?_, ?_, ?_⟩
 · rw [<- hW1, hrec]; exact run_enterLoop_outer _ _ _ _ _
 · simp only [resolve, hg]
   simp [go_sem]
 · intro f' _; trivial
 · simp [invoke, go_sem, eg]
 · intro h; simp [Fence.wide] at h
 · refine (hseq (n - 1) (w.heap.size + 1)
     (fun pre W => I pre W /\ W.heap[w.heap.size + 1]? = some (.loop (rec .ready none)) /\ W.heap[w.heap.size]? = some (.deferred (some [])))
     (fun pre W => ∃ c, Ix c pre W /\ W.heap[w.heap.size + 1]? = some (.loop (rec .done (some c))) /\ W.heap[w.heap.size]? = some (.deferred (some [])))
     W1 (hW1 ▸ hpre _) ?_ ?_ ?_ ⟨hW1 ▸ h0 _, hL1, hK1⟩).mono ?_
   · rintro pre A B ⟨hi, hl, hk⟩ hr
     have := hR A B hr (by have := (Array.getElem?_eq_some_iff.1 hl).1; omega)
     exact ⟨hIR _ _ _ hi hr, this.2.trans hl, this.1.trans hk⟩
   · rintro pre A B ⟨c, hi, hl, hk⟩ hr
     have := hR A B hr (by have := (Array.getElem?_eq_some_iff.1 hl).1; omega)
     exact ⟨c, hIxR _ _ _ _ hi hr, this.2.trans hl, this.1.trans hk⟩
   · rintro pre x W ⟨hi, hl, hk⟩ hit
     have hlt : w.heap.size + 1 < W.heap.size := (Array.getElem?_eq_some_iff.1 hl).1
     have hy := run_yield (P := P) (args := encs x) hl (by rw [hrec]; exact hps x)
     rw [hrec] at hy
     refine ⟨fn, _, assign, body, hy, roundIn_of_wpIn trivial (hassign _ x W _ ⟨_, run_beginRound hl (by rw [hrec]), ?_⟩)⟩
     have hl2 : (W.putObj (w.heap.size + 1) (.loop { rec .ready none with state := .busy })).heap[w.heap.size + 1]? = some (.loop { rec .ready none with state := .busy }) := World.putObj_heap_same hlt
     have hk2 : (W.putObj (w.heap.size + 1) (.loop { rec .ready none with state := .busy })).heap[w.heap.size]? = some (.deferred (some [])) := (World.putObj_heap_other (by omega)).trans hk
     have hw2 : Kp W (W.putObj (w.heap.size + 1) (.loop { rec .ready none with state := .busy })) := hKp _ _ _ hl
     refine wpIn_mono (hbody _ pre x _ _ (hI _ _ _ _ hi hl) (hIt _ _ _ _ _ hit hl) hl2 hk2) ?_
     have fin : ∀ (jump : Option Code) (W3 : World), KeepLD w.heap.size (W.putObj (w.heap.size + 1) (.loop { rec .ready none with state := .busy })) W3 ->
         (Instr.endRound (w.heap.size + 1) jump).run P W3 = .ok (.bool jump.isNone) (W3.putObj (w.heap.size + 1) (.loop (rec (if jump.isNone then .ready else .done) jump))) /\
         W3.heap[w.heap.size + 1]? = some (.loop { rec .ready none with state := .busy }) /\
         (W3.putObj (w.heap.size + 1) (.loop (rec (if jump.isNone then .ready else .done) jump))).heap[w.heap.size + 1]? = some (.loop (rec (if jump.isNone then .ready else .done) jump)) /\
         (W3.putObj (w.heap.size + 1) (.loop (rec (if jump.isNone then .ready else .done) jump))).heap[w.heap.size]? = some (.deferred (some [])) := fun jump W3 hk3 => by
       have hl3 := hk3.2.trans hl2
       have := run_endRound (P := P) jump hl3
       rw [hrec] at this ⊢
       exact ⟨this, by rw [hrec] at hl3; exact hl3, World.putObj_heap_same (Array.getElem?_eq_some_iff.1 hl3).1, (World.putObj_heap_other (by omega)).trans (hk3.1.trans hk2)⟩
     rintro e a3 W3 hp
     cases e with
     | normal =>
       obtain ⟨hk3, hkp3, hi3⟩ := hp
       obtain ⟨hr, hl3, hl4, hk4⟩ := fin none W3 hk3
       exact ⟨_, _, hr, .inl ⟨rfl, ⟨hI _ _ _ _ hi3 hl3, hl4, hk4⟩, hKt _ _ _ (hKt _ _ _ hw2 hkp3) (hKp _ _ _ hl3)⟩⟩
     | ret =>
       obtain ⟨hk3, hi3⟩ := hp
       obtain ⟨hr, hl3, hl4, hk4⟩ := fin (some .ret) W3 hk3
       exact ⟨_, _, hr, .inr ⟨rfl, .ret, hIx _ _ _ _ _ hi3 hl3, hl4, hk4⟩⟩
     | exit id =>
       obtain ⟨hk3, hi3⟩ := hp
       obtain ⟨hr, hl3, hl4, hk4⟩ := fin (some (.exit id)) W3 hk3
       exact ⟨_, _, hr, .inr ⟨rfl, .exit id, hIx _ _ _ _ _ hi3 hl3, hl4, hk4⟩⟩
     | goto t =>
       obtain ⟨hk3, hi3⟩ := hp
       obtain ⟨hr, hl3, hl4, hk4⟩ := fin (some (.goto t)) W3 hk3
       exact ⟨_, _, hr, .inr ⟨rfl, .goto t, hIx _ _ _ _ _ hi3 hl3, hl4, hk4⟩⟩
     | panic ch => exact hp.elim
     | outgrown => exact hp.elim
   · rintro e W2 ⟨⟨v, rfl⟩, (⟨xs, hS, hi, hl, hk⟩ | ⟨pre, hSp, c, hi, hl, hk⟩)⟩
     · exact ⟨none, _, by have := run_endLoop (P := P) hl (by rw [hrec]; simp); rw [hrec] at this; exact this, hdone xs _ (hSk _ _ _ _ hS hl) (hI _ _ _ _ hi hl) ((World.putObj_heap_other (by omega)).trans hk)⟩
     · exact ⟨some c, _, by have := run_endLoop (P := P) hl (by rw [hrec]; simp); rw [hrec] at this; exact this, hstop c pre _ (hSpk _ _ _ _ hSp hl) (hIx _ _ _ _ _ hi hl) ((World.putObj_heap_other (by omega)).trans hk)⟩
end Go.Proofs.YteamhbohgoclgaaGreatDoor

namespace Go.Proofs.YteamhbohgoclgaaGreatDoor
open Go.RowKit Go.Shelf
attribute [local go_sem] Oper.semAt_some

theorem RV.keepG {w w' : World} {g n cap : Nat} {us : List Value} (h : RV w (.slice (some ⟨g, 0, none⟩) n cap) us) (hs : w.heap.size <= w'.heap.size) (hk : w'.heap[g]? = w.heap[g]?) : RV w' (.slice (some ⟨g, 0, none⟩) n cap) us := by
 obtain ⟨A, c, he, h3, h4, h5⟩ := h
 refine ⟨A, c, he, h3, h4, fun k hkl => ?_⟩
 obtain ⟨ad, rfl, hb, hc⟩ := h5 k hkl
 simp only [Value.slice.injEq, Option.some.injEq] at he
 obtain ⟨rfl, -⟩ := he
 refine ⟨_, rfl, by omega, ?_⟩
 rw [World.cell?_of_block (w := w) (by rw [block_of_add]; exact hk)]
 exact hc
def WS (hb b gd cap n : Nat) (tl cs : List Int) (bl : List Bool) (W : World) : Prop :=
 BL W hb 225 [.pointer (some ⟨b, 0, none⟩)] /\ WD W b n tl (.slice (some ⟨gd, 0, none⟩) n cap) bl /\ RI W (.slice (some ⟨gd, 0, none⟩) n cap) cs
theorem WS.keep {hb b gd cap n : Nat} {tl cs : List Int} {bl : List Bool} {W W' : World} (h : WS hb b gd cap n tl cs bl W) (hk : LkK [hb, b, gd] W W') : WS hb b gd cap n tl cs bl W' :=
 ⟨(hk.2 hb (by simp)).trans h.1, h.2.1.keep (hk.2 b (by simp)), RV.keepG h.2.2 hk.1 (hk.2 gd (by simp))⟩
theorem WS.below {hb b gd cap n : Nat} {tl cs : List Int} {bl : List Bool} {W W' : World} (h : WS hb b gd cap n tl cs bl W) (hw : Below W.heap.size W W') : WS hb b gd cap n tl cs bl W' :=
 ⟨h.1.bel hw, h.2.1.bel hw, RI.below h.2.2 hw⟩
theorem WS.ne {hb b gd cap n : Nat} {tl cs : List Int} {bl : List Bool} {W : World} (h : WS hb b gd cap n tl cs bl W) : hb ≠ b := by
 rintro rfl
 have h1 := h.1
 have h2 := h.2.1.1
 unfold BL at h1 h2
 rw [h1] at h2
 simp only [Option.some.injEq, Obj.cells.injEq] at h2
 exact absurd h2.2.1 (by decide)
theorem WS.set {hb b gd cap n : Nat} {tl cs : List Int} {bl : List Bool} {W : World} (h : WS hb b gd cap n tl cs bl W) (hg : gd ≠ b) {j : Nat} (hj : j < 12) (x : Bool) : WS hb b gd cap n tl cs (bl.set j x) (W.setCell ⟨b, 146 + j, none⟩ (.bool x)) :=
 ⟨h.1.set_other h.ne _, h.2.1.setB hj x, RV.keep1 h.2.2 hg _⟩
def blOf (q : Nat) (xs : List Nat) : List Bool := xs.foldl (fun bl v => bl.set v true) ((List.replicate 12 false).set q true)
theorem blOf_snoc (q : Nat) (xs : List Nat) (v : Nat) : blOf q (xs ++ [v]) = (blOf q xs).set v true := by simp [blOf]
theorem blOf_len (q : Nat) (xs : List Nat) : (blOf q xs).length = 12 := by
 unfold blOf
 have : ∀ (l : List Nat) (bl : List Bool), (l.foldl (fun bl v => bl.set v true) bl).length = bl.length := fun l => by
   induction l with
   | nil => intro bl; rfl
   | cons x r ih => intro bl; simp [ih]
 rw [this]; simp
theorem fnB_set12 {bl : List Bool} (hl : bl.length = 12) {v : Nat} (hv : v < 12) (u : Nat) : fnB (bl.set v true) u = if v = u then true else fnB bl u := by
 unfold fnB
 rw [List.getD_eq_getElem?_getD, List.getElem?_set, List.getD_eq_getElem?_getD]
 by_cases e : v = u
 · subst e; rw [if_pos rfl, if_pos rfl, if_pos (by omega)]; rfl
 · rw [if_neg e, if_neg e]
def BurnW (n q : Nat) (es : List Tri) (cs : List Int) (bl : List Bool) : Prop :=
 bl.length = 12 /\ fnB bl q = true /\ ∀ A : Nat -> Bool, A q = false -> Legal n (wgt es) (fnD cs) A -> ∀ v, v < n -> fnB bl v = true -> A v = false
theorem burnw_start {n q : Nat} {es : List Tri} {cs : List Int} (hq : q < 12) : BurnW n q es cs (blOf q []) := by
 have e : blOf q [] = (List.replicate 12 false).set q true := rfl
 rw [e]
 refine ⟨by simp, by rw [fnB_set12 (by simp) hq, if_pos rfl], fun A hA _ v _ hb => ?_⟩
 rw [fnB_set12 (by simp) hq] at hb
 by_cases e : q = v
 · subst e; exact hA
 · rw [if_neg e] at hb
   unfold fnB at hb
   rw [List.getD_eq_getElem?_getD, List.getElem?_replicate] at hb
   split at hb <;> cases hb
theorem burnw_step {n q v : Nat} {es : List Tri} {cs : List Int} {bl : List Bool} (hr : Rt n es) (h : BurnW n q es cs bl) (hv : v < n) (hc : catchB n es cs bl v = true) : BurnW n q es cs (bl.set v true) := by
 have h6 := hr.n6
 unfold catchB at hc
 simp only [Bool.and_eq_true, Bool.not_eq_true', decide_eq_true_eq] at hc
 refine ⟨by simpa using h.1, by rw [fnB_set12 h.1 (by omega)]; split; rfl; exact h.2.1, fun A hA hl u hu hb => ?_⟩
 rw [fnB_set12 h.1 (by omega)] at hb
 by_cases e : v = u
 · subst e
   exact burn_step (wgt_nonneg hr.ed.pos) hl (fun u hu hb => h.2.2 A hA hl u hu hb) hv hc.2
 · rw [if_neg e] at hb
   exact h.2.2 A hA hl u hu hb
def unb (n : Nat) (bl : List Bool) : Nat := countN n fun u => !fnB bl u
theorem unb_set {n v : Nat} {bl : List Bool} (hl : bl.length = 12) (hv : v < n) (hn : n <= 12) (hb : fnB bl v = false) : unb n (bl.set v true) + 1 = unb n bl :=
 countN_drop hv (by simp [hb]) (by simp [fnB_set12 hl (show v < 12 by omega)]) (fun u _ hne => by simp only [fnB_set12 hl (show v < 12 by omega)]; rw [if_neg (fun e => hne e.symm)])
end Go.Proofs.YteamhbohgoclgaaGreatDoor

namespace Go.Proofs.YteamhbohgoclgaaGreatDoor
open Go.RowKit Go.Shelf

theorem fireF_any (b : Nat) (w : World) : Calls Tryz.prog 167 #[.pointer (some ⟨b, 0, none⟩)] w fun e w' =>
   e = .returned (.func (.func 215) #[] #[.pointer (some ⟨w.heap.size, 0, none⟩)]) /\ w.alloc (.cells #[.pointer (some ⟨b, 0, none⟩)] 225) = w' := by
 go_enter Tryz.func167, Tryz.ntmps167
 go_wp2
 go_ret
 exact ⟨rfl, rfl⟩
def leftV (bl : List Bool) (k : Nat) : List Int := ((List.range k).filter fun u => !fnB bl u).map fun u : Nat => (u : Int)
theorem leftV_succ (bl : List Bool) (k : Nat) : leftV bl (k + 1) = if fnB bl k = true then leftV bl k else leftV bl k ++ [(k : Int)] := by
 unfold leftV
 rw [List.range_succ, List.filter_append, List.map_append]
 cases h : fnB bl k <;> simp [h]
theorem leftV_len (bl : List Bool) (k : Nat) : (leftV bl k).length <= k := by
 unfold leftV
 rw [List.length_map]
 exact Nat.le_trans (List.length_filter_le _ _) (by simp)
theorem leftV_nil {bl : List Bool} {k : Nat} : leftV bl k = [] ↔ ∀ u, u < k -> fnB bl u = true := by
 unfold leftV
 rw [List.map_eq_nil_iff, List.filter_eq_nil_iff]
 simp
theorem one_ones {u : Value} (h : u.oneCell' = true) : ∀ x ∈ [u], x.oneCell' = true := by simp [h]
theorem RV.ones (w : World) (u : Value) (e : TypeId) : RV (w.alloc (.cells #[u] e)) (.slice (some ⟨w.heap.size, 0, none⟩) 1 1) [u] := RV.lit w #[u] e 1 rfl (by omega)
theorem unburntW_any (b n : Nat) (tl : List Int) (ch : Value) (bl : List Bool) (w : World) (hn : n <= 12) (hw : WD w b n tl ch bl) :
   Calls Tryz.prog 168 #[.pointer (some ⟨b, 0, none⟩)] w fun e w' => ∃ v, e = .returned v /\ OI w' w.heap.size v (leftV bl n) /\ Below w.heap.size w w' := by
 obtain ⟨i0, hi, hz0, hz1, hz2⟩ := info_parts int_info
 have HW := Hd hw
 have c0 := hw.n
 have hbl := hw.1.lt
 clear hw
 go_enter Tryz.func168, Tryz.ntmps168
 go_wp2
 go_loopw [3, 9] (fun vs i wr => ∃ k : Nat, k <= n /\ i = .int .i64 (k : Int) /\ Hid (OI wr w.heap.size vs (leftV bl k)) /\ Hid (Below w.heap.size w wr)) (fun _ i _ => n - (intOf i).toNat)
 case atStart => exact ⟨0, Nat.zero_le _, rfl, OI.nil_ _ _, Below.refl _ _⟩
 case round =>
   obtain ⟨k, hk, rfl, ho, hbe⟩ := hrel
   rename_i vs _ _
   by_cases hlt : k < n
   · have cb := (HW.out.bel hbe.out).burnt (j := k) (by omega)
     have HS := Hd (leftV_succ bl k)
     have hll := leftV_len bl k
     have hsz := hbe.out.size
     cases hb : fnB bl k
     · rw [hb] at cb HS
       rw [if_neg (by simp)] at HS
       have h1 := Hd (RV.ones wr (.int .i64 (k : Int)) 3)
       have ho1 := Hd (OV.below ho.out (below_alloc wr (.cells #[.int .i64 (k : Int)] 3)))
       clear hb
       go_wp2_with (at_builtin; refine wpList_appendV _ rfl _ _ _ rfl 3 i0 _ 8 Tryz.underlying37 hi hz0 hz1 hz2 rfl w.heap.size _ _ rfl ho1.out _ _ rfl h1.out (one_ones rfl) (by simp; omega) (by simp; omega) (by simp; omega) ?_; intro v1 w1 hown1 hg1 hat1)
       have HO := Hd hown1
       clear hown1
       go_wp2
       go_roundw
       case rel => exact ⟨k + 1, by omega, by go_num, by rw [HS.out]; show OI _ _ _ _; simpa [OI] using HO.out, below_own (hbe.out.trans ((below_alloc wr _).mono hbe.out.size)) (by simp; omega) ho1.out hg1⟩
       case measure => simp [intOf]; omega
     · rw [hb] at cb HS
       rw [if_pos rfl] at HS
       clear hb
       go_wp2
       go_roundw
       case rel => exact ⟨k + 1, by omega, by go_num, by rw [HS.out]; exact ho.out, hbe.out⟩
       case measure => simp [intOf]; omega
   · obtain rfl : k = n := by omega
     go_wp2
     go_ret
     exact ⟨_, rfl, ho.out, hbe.out⟩
attribute [local go_sem] Oper.semAt_some

theorem burnw_tight {n q : Nat} {es : List Tri} {cs : List Int} {bl : List Bool} (hb : BurnW n q es cs bl) (hc : ∀ u, u < n -> catchB n es cs bl u = false) : leftV bl n = [] ↔ Tight n (wgt es) q (fnD cs) := by
 rw [leftV_nil]
 constructor
 · intro hall
   exact tight_of_burnt fun A hA hl v hv => hb.2.2 A hA hl v hv (hall v hv)
 · intro ht u hu
   apply Classical.byContradiction
   intro hne
   obtain ⟨v, hv, hA, hlt⟩ := ht (fun x => !fnB bl x) (by simp [hb.2.1]) ⟨u, hu, by simpa using hne⟩
   rw [outw_not] at hlt
   have h := hc v hv
   unfold catchB at h
   have hf : fnB bl v = false := by simpa using hA
   rw [hf] at h
   simp only [Bool.not_false, Bool.true_and, decide_eq_false_iff_not] at h
   exact h hlt
theorem Fr.grownG {Bs : List Nat} {w W W' : World} {row : Option Nat} (h : Fr Bs w W) (hg : W.grownBy W' row) (hr : ∀ k, row = some k -> w.heap.size <= k) : Fr Bs w W' :=
 ⟨hg.os.trans h.os, hg.tape.trans h.tape, hg.output.trans h.output, Nat.le_trans h.size hg.size, fun k hk hn => (hg.block k (by have := h.size; omega) (fun e => by have := hr k e.symm; omega)).trans (h.block k hk hn)⟩
def BnI (w0 : World) (B ob b hb gd q : Nat) (pre : List Nat) (W : World) : Prop :=
 ∃ g cap, BL W ob 37 [.slice (some ⟨g, 0, none⟩) (pre.length + 1) cap] /\ OI W B (.slice (some ⟨g, 0, none⟩) (pre.length + 1) cap) ((q : Int) :: pre.map fun x : Nat => (x : Int)) /\ (g ≠ hb /\ g ≠ b /\ g ≠ gd) /\ Fr [b] w0 W
theorem BnI.fr {w0 : World} {B ob b hb gd q : Nat} {pre : List Nat} {A C : World} (h : BnI w0 B ob b hb gd q pre A) (hob : ob ≠ b) (hr : Fr [b] A C) : BnI w0 B ob b hb gd q pre C := by
 obtain ⟨g, cap, h1, h2, h3, h5⟩ := h
 exact ⟨g, cap, h1.fr hr (by simpa using hob), OV.fr h2 hr (fun g' hg => by simp only [Value.ownBlock, Option.some.injEq] at hg; subst hg; simpa using h3.2.1), h3, h5.trans hr⟩
theorem own_lit (w : World) (z : Int) : OI (w.alloc (.cells #[.int .i64 z] 3)) w.heap.size (.slice (some ⟨w.heap.size, 0, none⟩) 1 1) [z] := by
 refine ⟨⟨by simp, .inr ⟨w.heap.size, 1, #[.int .i64 z], by simp, Nat.le_refl _, heap_alloc_new w _, by simp, by unfold maxLen; omega, by simp, by simp⟩⟩, by simp⟩
theorem run_append_one {P : Program} (w : World) (t ty e : TypeId) (i : TypeInfo) (z : Value) (ht : P.underlying t = some (.slice e)) (hi : P.info? e = some i) (hz : i.zero = some z)
   (hsize : i.size = 1) (hby : i.bytes = 8) (hzs : z.cells.size = 1) (B : Nat) (v : Value) (us : List Value) (hown : OV w B e v us) (u : Value) (h1 : u.oneCell' = true) (hb : us.length <= 1000) (hB : B <= w.heap.size) :
   ∃ g cap w', (Builtin.append_ #[t, t] ty #[v, .slice (some ⟨w.heap.size, 0, none⟩) 1 1]).run P (w.alloc (.cells #[u] e)) = .ok (.slice (some ⟨g, 0, none⟩) (us.length + 1) cap) w' /\
     OV w' B e (.slice (some ⟨g, 0, none⟩) (us.length + 1) cap) (us ++ [u]) /\ (w.alloc (.cells #[u] e)).grownBy w' v.ownBlock /\ (v.ownBlock = some g \/ g = w.heap.size + 1) := by
 obtain ⟨v', w', hrun, ho, hg, hat⟩ := run_appendV (P := P) (w.alloc (.cells #[u] e)) t ty e i z 8 ht hi hz hsize hby hzs B v us (OV.below hown (below_alloc w _)) _ [u] (RV.ones w u e) (one_ones h1) (by simp; omega) (by simp; omega) (by simp; omega)
 obtain ⟨g, cap, rfl, -, -⟩ := OV.shape ho (by simp)
 refine ⟨g, cap, w', by simpa using hrun, by simpa using ho, hg, ?_⟩
 rcases hat with h | h
 · exact .inl (by rw [<- h]; rfl)
 · right
   simp only [Value.ownBlock, World.size_alloc, Option.some.injEq] at h
   exact h
end Go.Proofs.YteamhbohgoclgaaGreatDoor

namespace Go.Proofs.YteamhbohgoclgaaGreatDoor
open Go.RowKit Go.Shelf
attribute [local go_sem] Oper.semAt_some

theorem run_store_func (P : Program) (w : World) (a : Addr) (m : Mode) (f : Fn) (b c : Array Value) : (store a (.func f b c) m).run P w = stored P w a (.func f b c) m := run_store P w a _ m rfl
attribute [local go_sem] run_store_func
end Go.Proofs.YteamhbohgoclgaaGreatDoor

namespace Go.Proofs.YteamhbohgoclgaaGreatDoor
open Go.RowKit Go.Shelf
attribute [local go_sem] Oper.semAt_some run_store_func

theorem run_loadVar_cell1 {P : Program} (w : World) (t : TypeId) (a : Addr) (v : Value) (d : TypeDesc) (hu : P.underlying t = some d) (hd : (match d with | .struct _ | .array _ _ => true | _ => false) = false)
   (hc : w.cell? a = some v) : (loadVar t a).run P w = .ok v w := by
 have hagg : (isAgg t).run P w = .ok false w := by
   unfold isAgg
   rw [Sem.run_bind, run_underlying hu w]
   cases d <;> simp_all
 simp [loadVar, Sem.run_bind, hagg, go_sem, hc]
theorem results_cell2 {P : Program} {fn : Func} {p u : Tmp} {t1 t2 : TypeId} (h : fn.results = #[.cell p t1, .cell u t2]) (tmps : Array Value) (w : World) (d1 d2 : TypeDesc) (b1 b2 : Nat) (v1 v2 : Value)
   (hp : tmps.getD p undef = .pointer (some ⟨b1, 0, none⟩)) (hq : tmps.getD u undef = .pointer (some ⟨b2, 0, none⟩))
   (hu1 : P.underlying t1 = some d1) (hu2 : P.underlying t2 = some d2) (hd1 : (match d1 with | .struct _ | .array _ _ => true | _ => false) = false) (hd2 : (match d2 with | .struct _ | .array _ _ => true | _ => false) = false)
   (h1 : w.cell? ⟨b1, 0, none⟩ = some v1) (h2 : w.cell? ⟨b2, 0, none⟩ = some v2) :
   (results fn tmps).run P w = .ok (.tuple #[v1, v2]) w := by
 have hp' : tmps[p]?.getD undef = .pointer (some ⟨b1, 0, none⟩) := by simpa using hp
 have hq' : tmps[u]?.getD undef = .pointer (some ⟨b2, 0, none⟩) := by simpa using hq
 simp [results, h, hp', hq', asAddr, run_loadVar_cell1 w t1 _ v1 d1 hu1 hd1 h1, run_loadVar_cell1 w t2 _ v2 d2 hu2 hd2 h2]
end Go.Proofs.YteamhbohgoclgaaGreatDoor

namespace Go.Proofs.YteamhbohgoclgaaGreatDoor
open Go.RowKit Go.Shelf

def cmpL : List Int -> List Int -> Int
 | [], [] => 0
 | [], _ :: _ => -1
 | _ :: _, [] => 1
 | x :: xs, y :: ys => if cmpI x y ≠ 0 then cmpI x y else cmpL xs ys

theorem cmpL_refl : ∀ xs, cmpL xs xs = 0
 | [] => rfl
 | x :: r => by
   have : cmpI x x = 0 := by simp [cmpI]
   rw [cmpL, if_neg (by simp [this]), cmpL_refl r]
theorem cmpL_cons (x y : Int) (r s : List Int) : cmpL (x :: r) (y :: s) = if x < y then -1 else if y < x then 1 else cmpL r s := by
 rw [cmpL]; unfold cmpI
 by_cases h1 : x < y
 · simp [h1]
 · by_cases h2 : y < x
   · simp [h1, h2]
   · simp [h1, h2]
theorem cmpL_nil_cons (y : Int) (s : List Int) : cmpL [] (y :: s) = -1 := by rw [cmpL]
theorem cmpL_cons_nil (x : Int) (r : List Int) : cmpL (x :: r) [] = 1 := by rw [cmpL]
theorem cmpL_ge : ∀ xs ys zs, ¬ cmpL xs ys < 0 -> ¬ cmpL ys zs < 0 -> ¬ cmpL xs zs < 0 := by
 intro xs
 induction xs with
 | nil =>
   intro ys zs h1 h2
   cases ys with
   | nil => exact h2
   | cons y s => rw [cmpL_nil_cons] at h1; omega
 | cons x r ih =>
   intro ys zs h1 h2
   cases zs with
   | nil => rw [cmpL_cons_nil]; omega
   | cons z t => cases ys with
     | nil => rw [cmpL_nil_cons] at h2; omega
     | cons y s =>
       rw [cmpL_cons] at h1 h2 ⊢
       have := ih s t
       repeat' split at h1
       all_goals (repeat' split at h2)
       all_goals (repeat' split)
       all_goals first | omega | exact this h1 h2
theorem cmpL_anti : ∀ xs ys, ¬ cmpL xs ys < 0 -> ¬ cmpL ys xs < 0 -> xs = ys := by
 intro xs
 induction xs with
 | nil =>
   intro ys h1 h2
   cases ys with
   | nil => rfl
   | cons y s => rw [cmpL_nil_cons] at h1; omega
 | cons x r ih =>
   intro ys h1 h2
   cases ys with
   | nil => rw [cmpL_nil_cons] at h2; omega
   | cons y s =>
     rw [cmpL_cons] at h1 h2
     have := ih s
     repeat' split at h1
     all_goals (repeat' split at h2)
     all_goals first | omega | (rw [this h1 h2]; congr 1; omega)

def es3 : List Tri := [(0, 1, 1), (0, 2, 1), (1, 2, 1)]

def p10 : Nat -> Int
 | 0 => 1
 | k + 1 => 10 * p10 k
theorem p10_pos (k : Nat) : 1 <= p10 k := by
 induction k with
 | zero => simp [p10]
 | succ k ih => rw [p10]; omega
theorem p10_mono {a b : Nat} (h : a <= b) : p10 a <= p10 b := by
 induction b with
 | zero => rw [show a = 0 by omega]; exact Int.le_refl _
 | succ b ih =>
   by_cases e : a = b + 1
   · rw [e]; exact Int.le_refl _
   · have := ih (by omega)
     have := p10_pos b
     rw [p10]; omega
def dval : List Int -> Int
 | [] => 0
 | d :: r => d + 10 * dval r
def Dig (l : List Int) : Prop := ∀ k, 0 <= l.getD k 0 /\ l.getD k 0 <= 9
def Can (l : List Int) : Prop := l = [] \/ l.getD (l.length - 1) 0 ≠ 0
theorem Dig.tail {d : Int} {r : List Int} (h : Dig (d :: r)) : (0 <= d /\ d <= 9) /\ Dig r := ⟨by simpa using h 0, fun k => by simpa using h (k + 1)⟩
theorem dig_nil : Dig [] := fun k => by simp
theorem Dig.snoc {l : List Int} {d : Int} (h : Dig l) (h0 : 0 <= d) (h9 : d <= 9) : Dig (l ++ [d]) := fun k => by
 rcases Nat.lt_trichotomy k l.length with c | c | c
 · rw [List.getD_eq_getElem?_getD, List.getElem?_append_left c, <- List.getD_eq_getElem?_getD]; exact h k
 · rw [List.getD_eq_getElem?_getD, List.getElem?_append_right (by omega), c]; simp; omega
 · rw [List.getD_eq_getElem?_getD, List.getElem?_append_right (by omega), List.getElem?_eq_none (by simp; omega)]; simp
theorem Dig.take {l : List Int} (h : Dig l) (n : Nat) : Dig (l.take n) := fun k => by
 by_cases c : k < n
 · rw [List.getD_eq_getElem?_getD, List.getElem?_take_of_lt c, <- List.getD_eq_getElem?_getD]; exact h k
 · rw [List.getD_eq_getElem?_getD, List.getElem?_eq_none (by simp; omega)]; simp
theorem Dig.drop {l : List Int} (h : Dig l) (n : Nat) : Dig (l.drop n) := fun k => by
 rw [List.getD_eq_getElem?_getD, List.getElem?_drop, <- List.getD_eq_getElem?_getD]; exact h _
theorem dval_bd {l : List Int} (h : Dig l) : 0 <= dval l /\ dval l < p10 l.length := by
 induction l with
 | nil => simp [dval, p10]
 | cons d r ih =>
   obtain ⟨h1, h2⟩ := h.tail
   have := ih h2
   simp only [dval, List.length_cons, p10]
   omega
theorem dval_append (a b : List Int) : dval (a ++ b) = dval a + p10 a.length * dval b := by
 induction a with
 | nil => simp [dval, p10]
 | cons d r ih => simp only [List.cons_append, dval, ih, List.length_cons, p10]; grind
theorem dval_snoc (l : List Int) (d : Int) : dval (l ++ [d]) = dval l + p10 l.length * d := by rw [dval_append]; simp [dval]
theorem dval_split (l : List Int) {k : Nat} (hk : k <= l.length) : dval l = dval (l.take k) + p10 k * dval (l.drop k) := by
 have := dval_append (l.take k) (l.drop k)
 rw [List.take_append_drop, List.length_take, Nat.min_eq_left hk] at this
 exact this
theorem dval_take_succ (l : List Int) (k : Nat) : dval (l.take (k + 1)) = dval (l.take k) + p10 k * l.getD k 0 := by
 by_cases c : k < l.length
 · rw [List.take_add_one, List.getElem?_eq_getElem c, List.getD_eq_getElem?_getD, List.getElem?_eq_getElem c]
   show dval (l.take k ++ [l[k]]) = _
   rw [dval_snoc, List.length_take, Nat.min_eq_left (by omega)]; rfl
 · rw [List.take_of_length_le (by omega), List.take_of_length_le (by omega), List.getD_eq_getElem?_getD, List.getElem?_eq_none (by omega)]; simp
theorem dval_zeros (n : Nat) : dval (List.replicate n 0) = 0 := by
 induction n with
 | zero => rfl
 | succ n ih => rw [List.replicate_succ, dval, ih]; rfl
theorem can_ge {l : List Int} (h : Dig l) (hc : Can l) (hl : l ≠ []) : p10 (l.length - 1) <= dval l := by
 have hlen : 0 < l.length := List.length_pos_iff.2 hl
 have h1 := dval_split l (k := l.length - 1) (by omega)
 have h2 := (dval_bd (h.take (l.length - 1))).1
 have h3 : l.drop (l.length - 1) = [l.getD (l.length - 1) 0] := by
   rw [List.drop_eq_getElem_cons (by omega), List.drop_eq_nil_of_le (by omega), List.getD_eq_getElem?_getD, List.getElem?_eq_getElem (by omega)]; rfl
 have h4 := h (l.length - 1)
 have h5 : l.getD (l.length - 1) 0 ≠ 0 := by
   rcases hc with hc | hc
   · exact absurd hc hl
   · exact hc
 rw [h3] at h1
 simp only [dval] at h1
 generalize l.getD (l.length - 1) 0 = z at *
 have h6 := Int.mul_le_mul_of_nonneg_left (show (1 : Int) <= z + 10 * 0 by omega) (show 0 <= p10 (l.length - 1) by have := p10_pos (l.length - 1); omega)
 omega
theorem can_len {l : List Int} (h : Dig l) (hc : Can l) {k : Nat} (hk : dval l < p10 k) : l.length <= k := by
 by_cases e : l = []
 · rw [e]; simp
 · have h1 := can_ge h hc e
   apply Classical.byContradiction
   intro hn
   have := p10_mono (a := k) (b := l.length - 1) (by omega)
   omega
theorem can_nil {l : List Int} (h : Dig l) (hc : Can l) (h0 : dval l = 0) : l = [] := by
 have := can_len h hc (k := 0) (by rw [h0]; decide)
 exact List.eq_nil_of_length_eq_zero (by omega)
theorem can_of_ge {l : List Int} (h : Dig l) (hl : l ≠ []) (hv : p10 (l.length - 1) <= dval l) : Can l := by
 refine .inr fun h0 => ?_
 have hlen : 0 < l.length := List.length_pos_iff.2 hl
 have h1 := dval_take_succ l (l.length - 1)
 rw [show l.length - 1 + 1 = l.length by omega, List.take_of_length_le (Nat.le_refl _), h0] at h1
 have h2 := (dval_bd (h.take (l.length - 1))).2
 rw [List.length_take, Nat.min_eq_left (by omega)] at h2
 simp at h1
 omega
theorem cut_ok {l : List Int} (h : Dig l) {n : Nat} (hn : n <= l.length) (hz : ∀ i, n <= i -> l.getD i 0 = 0) (hl : n = 0 \/ l.getD (n - 1) 0 ≠ 0) : Dig (l.take n) /\ Can (l.take n) /\ dval (l.take n) = dval l /\ (l.take n).length = n := by
 have hlen : (l.take n).length = n := by rw [List.length_take, Nat.min_eq_left hn]
 refine ⟨h.take n, ?_, ?_, hlen⟩
 · rcases hl with rfl | hl
   · exact .inl (by simp)
   · by_cases c : n = 0
     · exact .inl (by rw [c]; simp)
     · refine .inr ?_
       rw [hlen, List.getD_eq_getElem?_getD, List.getElem?_take_of_lt (by omega), <- List.getD_eq_getElem?_getD]; exact hl
 · have h1 := dval_split l hn
   have h2 : dval (l.drop n) = 0 := by
     have e : l.drop n = List.replicate (l.length - n) 0 := by
       refine List.eq_replicate_iff.2 ⟨by simp, fun b hb => ?_⟩
       obtain ⟨k, hk, rfl⟩ := List.mem_iff_getElem.1 hb
       have h3 := hz (n + k) (by omega)
       simp only [List.length_drop] at hk
       rw [List.getD_eq_getElem?_getD, List.getElem?_eq_getElem (by omega)] at h3
       rw [List.getElem_drop]; exact h3
     rw [e, dval_zeros]
   rw [h2, Int.mul_zero] at h1
   omega
theorem cut_same {l : List Int} (hc : Can l) {n : Nat} (hn : n <= l.length) (hz : ∀ i, n <= i -> l.getD i 0 = 0) : n = l.length := by
 rcases hc with rfl | hc
 · simp at hn ⊢; exact hn
 · apply Classical.byContradiction
   intro h
   exact hc (hz _ (by omega))
theorem ord_lt {a b : List Int} (ha : Dig a) (hb : Dig b) {i : Nat} (hl : a.length = b.length) (hi : i < a.length) (hd : a.drop (i + 1) = b.drop (i + 1)) (h : a.getD i 0 < b.getD i 0) : dval a < dval b := by
 have h1 := dval_split a (k := i + 1) (by omega)
 have h2 := dval_split b (k := i + 1) (by omega)
 rw [dval_take_succ] at h1 h2
 rw [<- hd] at h2
 have h3 := dval_bd (ha.take i)
 have h4 := dval_bd (hb.take i)
 rw [List.length_take, Nat.min_eq_left (by omega)] at h3 h4
 have h5 := Int.mul_le_mul_of_nonneg_left (show a.getD i 0 + 1 <= b.getD i 0 by omega) (show 0 <= p10 i by have := p10_pos i; omega)
 rw [Int.mul_add] at h5
 omega
theorem len_lt {a b : List Int} (ha : Dig a) (hb : Dig b) (hc : Can b) (h : a.length < b.length) : dval a < dval b := by
 have h1 := (dval_bd ha).2
 have h2 := can_ge hb hc (by intro e; rw [e] at h; simp at h)
 have h3 := p10_mono (a := a.length) (b := b.length - 1) (by omega)
 omega
def chrs (l : List Int) : List UInt8 := l.reverse.map fun d => UInt8.ofNat (48 + d).toNat
def textL (l : List Int) (m : Bool) : List UInt8 := if l = [] then [48] else if m then 45 :: chrs l else chrs l
def sgZ (l : List Int) (m : Bool) : Int := if m then - dval l else dval l
def ZS (v : Value) (z : Int) : Prop := ∃ (l : List Int) (m : Bool), v = .string ⟨(textL l m).toArray⟩ /\ Dig l /\ Can l /\ (l = [] -> m = false) /\ z = sgZ l m
def digR (bs : List UInt8) : List Int := (bs.reverse.filter fun b => b != 45).map fun b => (b.toNat : Int) - 48
theorem digR_cons (b : UInt8) (bs : List UInt8) : digR (b :: bs) = if b = 45 then digR bs else digR bs ++ [(b.toNat : Int) - 48] := by
 unfold digR
 rw [List.reverse_cons, List.filter_append]
 by_cases c : b = 45
 · rw [if_pos c]; simp [c]
 · rw [if_neg c]; simp [c]
theorem chr_nat {d : Int} (h0 : 0 <= d) (h9 : d <= 9) : (UInt8.ofNat (48 + d).toNat).toNat = (48 + d).toNat := by
 rw [UInt8.toNat_ofNat']; exact Nat.mod_eq_of_lt (by omega)
theorem chr_ne {d : Int} (h0 : 0 <= d) (h9 : d <= 9) : UInt8.ofNat (48 + d).toNat ≠ 45 := fun e => by
 have := congrArg UInt8.toNat e
 rw [chr_nat h0 h9] at this
 have h45 : (45 : UInt8).toNat = 45 := rfl
 omega
theorem Dig.mem {l : List Int} (h : Dig l) {d : Int} (hd : d ∈ l) : 0 <= d /\ d <= 9 := by
 obtain ⟨k, hk, rfl⟩ := List.mem_iff_getElem.1 hd
 have := h k
 rw [List.getD_eq_getElem?_getD, List.getElem?_eq_getElem hk] at this
 exact this
theorem digR_chrs {l : List Int} (h : Dig l) : digR (chrs l) = l := by
 unfold digR chrs
 rw [<- List.map_reverse, List.reverse_reverse, List.filter_eq_self.2 fun b hb => by
   obtain ⟨d, hd, rfl⟩ := List.mem_map.1 hb
   have := h.mem hd
   simpa using chr_ne this.1 this.2, List.map_map]
 conv => rhs; rw [<- List.map_id l]
 refine List.map_congr_left fun d hd => ?_
 have := h.mem hd
 show ((UInt8.ofNat (48 + d).toNat).toNat : Int) - 48 = d
 rw [chr_nat this.1 this.2]; omega
theorem digR_text {l : List Int} (h : Dig l) (m : Bool) : digR (textL l m) = if l = [] then [0] else l := by
 unfold textL
 by_cases e : l = []
 · rw [if_pos e, if_pos e]; decide
 · rw [if_neg e, if_neg e]
   cases m
   · exact digR_chrs h
   · rw [if_pos rfl, digR_cons, if_pos rfl]; exact digR_chrs h
theorem text_len (l : List Int) (m : Bool) : (textL l m).length <= l.length + 1 := by
 unfold textL
 split
 · simp
 · split
   · simp [chrs]
   · simp [chrs]
theorem text_pos (l : List Int) (m : Bool) : 0 < (textL l m).length := by
 unfold textL
 split
 · simp
 · rename_i h
   have := List.length_pos_iff.2 h
   split
   · simp
   · simpa [chrs] using this
theorem text_bytes {l : List Int} (h : Dig l) (m : Bool) : ∀ b ∈ textL l m, b = 45 \/ (48 <= b.toNat /\ b.toNat <= 57) := by
 have hc : ∀ b ∈ chrs l, b = 45 \/ (48 <= b.toNat /\ b.toNat <= 57) := fun b hb => by
   unfold chrs at hb
   obtain ⟨d, hd, rfl⟩ := List.mem_map.1 hb
   have := h.mem (List.mem_reverse.1 hd)
   rw [chr_nat this.1 this.2]
   exact .inr (by omega)
 intro b hb
 unfold textL at hb
 split at hb
 · simp only [List.mem_singleton] at hb; subst hb; exact .inr (by decide)
 · split at hb
   · rcases List.mem_cons.1 hb with hb | hb
     · exact .inl hb
     · exact hc b hb
   · exact hc b hb
theorem text_minus {l : List Int} (h : Dig l) (m : Bool) (hm : l = [] -> m = false) : ((textL l m).getD 0 0 == 45) = m := by
 unfold textL
 by_cases e : l = []
 · rw [if_pos e, hm e]; decide
 · rw [if_neg e]
   cases m
   · rw [if_neg (by simp)]
     have hp := List.length_pos_iff.2 e
     have hq : 0 < (chrs l).length := by simpa [chrs] using hp
     have hb : (chrs l).getD 0 0 ∈ chrs l := by
       rw [List.getD_eq_getElem?_getD, List.getElem?_eq_getElem hq]; exact List.getElem_mem hq
     have : (chrs l).getD 0 0 ≠ 45 := by
       generalize (chrs l).getD 0 0 = b at *
       unfold chrs at hb
       obtain ⟨d, hd, rfl⟩ := List.mem_map.1 hb
       have := h.mem (List.mem_reverse.1 hd)
       exact chr_ne this.1 this.2
     simpa using this
   · rw [if_pos rfl]; rfl
theorem text_zero {l : List Int} (h : Dig l) (hc : Can l) (m : Bool) (hm : l = [] -> m = false) : (textL l m = [48]) ↔ sgZ l m = 0 := by
 have h0 : sgZ l m = 0 ↔ l = [] := by
   constructor
   · intro e
     refine can_nil h hc ?_
     unfold sgZ at e
     cases m <;> simp at e <;> omega
   · intro e; rw [e, hm e]; rfl
 rw [h0]
 constructor
 · intro e
   apply Classical.byContradiction
   intro hl
   have h2 := digR_text h m
   rw [e, if_neg hl] at h2
   have h3 : l = [0] := by rw [<- h2]; decide
   rcases hc with hc | hc
   · exact hl hc
   · rw [h3] at hc; simp at hc
 · intro e; unfold textL; rw [if_pos e]

theorem dDigit_any (va : Value) (l : List Int) (k : Nat) (w : World) (ha : RI w va l) :
   Calls Tryz.prog 337 #[va, .int .i64 (k : Int)] w fun e w' => e = .returned (.int .i64 (l.getD k 0)) /\ w = w' := by
 obtain ⟨A, c, rfl, hlc, hb, hcell⟩ := ha.open_
 have HC := Hd hcell
 clear hcell ha
 by_cases hk : k < l.length
 · obtain ⟨ad, z, rfl, hadb, hz, hcl⟩ := HC.out k hk
   have HZ : Hid (z = l.getD k 0) := by show _ = _; rw [List.getD_eq_getElem?_getD, hz.out]; rfl
   go_enter Tryz.func337, Tryz.ntmps337
   go_wp2
   go_ret
   exact ⟨ret_i HZ.out, rfl⟩
 · have HZ : Hid (0 = l.getD k 0) := by show _ = _; rw [List.getD_eq_getElem?_getD, List.getElem?_eq_none (by omega)]; rfl
   go_enter Tryz.func337, Tryz.ntmps337
   go_wp2
   go_ret
   exact ⟨ret_i HZ.out, rfl⟩
theorem digR_drop {bs : List UInt8} {k : Nat} {b : UInt8} (h : bs[k]? = some b) : digR (bs.drop k) = if b = 45 then digR (bs.drop (k + 1)) else digR (bs.drop (k + 1)) ++ [(b.toNat : Int) - 48] := by
 obtain ⟨hk, rfl⟩ := List.getElem?_eq_some_iff.1 h
 rw [List.drop_eq_getElem_cons hk, digR_cons]
theorem digR_len (bs : List UInt8) : (digR bs).length <= bs.length := by
 unfold digR
 rw [List.length_map]
 exact Nat.le_trans (List.length_filter_le _ _) (by simp)
theorem OI.snoc {w W : World} {o : Value} {out : List Int} (h : OI W w.heap.size o out) (z : Int) (hb : Below w.heap.size w W) :
   OV (W.alloc (.cells #[.int .i64 z] 3)) w.heap.size 3 o (out.map (Value.int .i64)) /\ RV (W.alloc (.cells #[.int .i64 z] 3)) (.slice (some ⟨W.heap.size, 0, none⟩) 1 1) [.int .i64 z] /\
     ∀ v1 w3, OV w3 w.heap.size 3 v1 (out.map (Value.int .i64) ++ [.int .i64 z]) -> (W.alloc (.cells #[.int .i64 z] 3)).grownBy w3 o.ownBlock -> OI w3 w.heap.size v1 (out ++ [z]) /\ Below w.heap.size w w3 := by
 have hba := below_alloc W (.cells #[.int .i64 z] 3)
 have hov := OV.below h hba
 refine ⟨hov, RV.ones W _ _, fun v1 w3 hown hg => ⟨?_, ?_⟩⟩
 · show OV _ _ _ _ _
   simpa using hown
 · exact below_own (hb.trans (hba.mono hb.size)) (by have := hb.size; have := hba.size; omega) hov hg

theorem sgn_lt {a b : Int} (h : a < b) : cmpI a b = -1 := by unfold cmpI; rw [if_pos h]
theorem sgn_gt {a b : Int} (h : b < a) : cmpI a b = 1 := by unfold cmpI; rw [if_neg (by omega), if_pos h]
theorem sgn_eq {a b : Int} (h : a = b) : cmpI a b = 0 := by unfold cmpI; rw [if_neg (by omega), if_neg (by omega)]
theorem drop_eq_at {a b : List Int} {j : Nat} {x : Int} (ha : a[j]? = some x) (hb : b[j]? = some x) (h : a.drop (j + 1) = b.drop (j + 1)) : a.drop j = b.drop j := by
 obtain ⟨h1, e1⟩ := List.getElem?_eq_some_iff.1 ha
 obtain ⟨h2, e2⟩ := List.getElem?_eq_some_iff.1 hb
 rw [List.drop_eq_getElem_cons h1, List.drop_eq_getElem_cons h2, e1, e2, h]
theorem getD_of {a : List Int} {j : Nat} {x : Int} (h : a[j]? = some x) : a.getD j 0 = x := by rw [List.getD_eq_getElem?_getD, h]; rfl
theorem dOrder_any (va vb : Value) (a b : List Int) (w : World) (ha : RI w va a) (hb : RI w vb b) (hda : Dig a) (hdb : Dig b) (hca : Can a) (hcb : Can b) :
   Calls Tryz.prog 300 #[va, vb] w fun e w' => e = .returned (.int .i64 (cmpI (dval a) (dval b))) /\ Below w.heap.size w w' := by
 obtain ⟨A, c, rfl, hlc, hlb, hcell⟩ := ha.open_
 obtain ⟨A', c', rfl, hlc', hlb', hcell'⟩ := hb.open_
 by_cases hl1 : a.length < b.length
 · have hr := sgn_lt (len_lt hda hdb hcb hl1)
   have HR := Hd hr
   clear hcell hcell' ha hb hda hdb hca hcb hr
   go_enter Tryz.func300, Tryz.ntmps300
   go_wp2
   go_ret
   exact ⟨ret_i HR.out.symm, Below.refl _ _⟩
 by_cases hl2 : b.length < a.length
 · have hr := sgn_gt (len_lt hdb hda hca hl2)
   have HR := Hd hr
   clear hcell hcell' ha hb hda hdb hca hcb hr
   go_enter Tryz.func300, Tryz.ntmps300
   go_wp2
   go_ret
   exact ⟨ret_i HR.out.symm, Below.refl _ _⟩
 have HLen : Hid (a.length = b.length) := by show _ = _; omega
 have HA := Hd hcell
 have HB := Hd hcell'
 have HDa := Hd hda
 have HDb := Hd hdb
 rw [show b.length = a.length by omega]
 clear hcell hcell' ha hb hda hdb hca hcb hl1 hl2 hlb' hlc'
 go_enter Tryz.func300, Tryz.ntmps300
 go_wp2_with fail
 go_loopw [5] (fun i wr => ∃ k : Nat, k <= a.length /\ i = .int .i64 ((k : Int) - 1) /\ Hid (a.drop k = b.drop k) /\ Hid (Below w.heap.size w wr)) (fun i _ => (intOf i + 1).toNat)
 case atStart => exact ⟨a.length, Nat.le_refl _, rfl, by show _ = _; rw [List.drop_of_length_le (Nat.le_refl _), List.drop_of_length_le (by have := HLen.out; omega)], Below.refl _ _⟩
 case round =>
   obtain ⟨k, hk, rfl, hE, hbw⟩ := hrel
   by_cases hk0 : k = 0
   · subst hk0
     have HR : Hid (cmpI (dval a) (dval b) = 0) := sgn_eq (by have := hE.out; simp only [List.drop_zero] at this; rw [this])
     go_wp2
     go_ret
     exact ⟨ret_i HR.out.symm, hbw.out⟩
   · obtain ⟨j, rfl⟩ : ∃ j, k = j + 1 := ⟨k - 1, by omega⟩
     obtain ⟨ad, z, rfl, hab, hz, hcl⟩ := HA.out j (by omega)
     obtain ⟨ad', z', rfl, hab', hz', hcl'⟩ := HB.out j (by have := HLen.out; omega)
     have hcw := (hbw.out.cell (by rw [block_of_add]; exact hab)).trans hcl
     have hcw' := (hbw.out.cell (by rw [block_of_add]; exact hab')).trans hcl'
     have hjj : (((j + 1 : Nat) : Int) - 1) = (j : Int) := by omega
     rw [hjj]
     clear HA HB hcl hcl' hjj
     by_cases c1 : z < z'
     · have HR : Hid (cmpI (dval a) (dval b) = -1) := sgn_lt (ord_lt HDa.out HDb.out HLen.out (by omega) hE.out (by rw [getD_of hz.out, getD_of hz'.out]; exact c1))
       go_wp2_with fail
       go_quiet (fail)
       go_wp2_with fail
       go_quiet (fail)
       go_wp2
       go_ret
       refine ⟨ret_i HR.out.symm, ?_⟩
       repeat (first | exact hbw.out | apply below_drewN | apply Below.drew)
     · by_cases c2 : z' < z
       · have HR : Hid (cmpI (dval a) (dval b) = 1) := sgn_gt (ord_lt HDb.out HDa.out HLen.out.symm (by have := HLen.out; omega) hE.out.symm (by rw [getD_of hz.out, getD_of hz'.out]; exact c2))
         go_wp2_with fail
         go_quiet (fail)
         go_wp2_with fail
         go_quiet (fail)
         go_wp2
         go_ret
         refine ⟨ret_i HR.out.symm, ?_⟩
         repeat (first | exact hbw.out | apply below_drewN | apply Below.drew)
       · obtain rfl : z' = z := by omega
         have HE2 : Hid (a.drop j = b.drop j) := drop_eq_at hz.out hz'.out hE.out
         go_wp2_with fail
         go_quiet (fail)
         go_wp2
         go_roundw
         case rel =>
           refine ⟨j, by omega, by go_num, HE2.out, ?_⟩
           show Below _ _ _
           repeat (first | exact hbw.out | apply below_drewN | apply Below.drew)
         case measure => simp [intOf] <;> omega
end Go.Proofs.YteamhbohgoclgaaGreatDoor
