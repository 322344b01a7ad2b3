/- A range over a function whose round begins by writing memory (a loop variable of more cells than one).
   The single edges of a graph: graph.singles and its iterator.
   Contract of graph.Ends. -/
import Derived.Test.YtefggpdobjboeaaGreatG06
import Derived.Test.YtefggpdobjboeaaGreatG15
namespace Go.Proofs.YtefggpdobjboeaaGreat
open Go.RowKit Go.Shelf
variable {P : Program}
theorem wpIn_rangeFunc_iterA {α : Type} {g : Operand} {ps : Array Tmp} {assign body : Code} {Q : Exit → Act → World → Prop} {a : Act} {w : World} {n : Nat}
    {gf : Nat} {lb : Array Value} (hg : a.eval g = .func (.func gf) #[] lb) (eg : ∀ args w, (callFunc gf args).run P w = .ok (.enter gf args) w)
    {encs : α → Array Value} {It : List α → α → World → Prop} {R Kp : World → World → Prop} {S Sp : List α → Prop} {Pre : World → Prop}
    (hseq : IterC P gf lb encs It R Kp S Sp Pre) (hps : ∀ x, (encs x).size = ps.size)
    (hR : ∀ A B, R A B → A.heap.size ≥ w.heap.size + 2 → KeepLD w.heap.size A B)
    (hKt : ∀ A B C, Kp A B → Kp B C → Kp A C) (hKp : ∀ (W : World) (r : Loop) (o : Obj), W.heap[w.heap.size + 1]? = some (.loop r) → Kp W (W.putObj (w.heap.size + 1) o))
    (I : List α → World → Prop) (Ix : Code → List α → World → Prop)
    (hI : ∀ pre (W : World) (r : Loop) (o : Obj), I pre W → W.heap[w.heap.size + 1]? = some (.loop r) → I pre (W.putObj (w.heap.size + 1) o))
    (hIx : ∀ c pre (W : World) (r : Loop) (o : Obj), Ix c pre W → W.heap[w.heap.size + 1]? = some (.loop r) → Ix c pre (W.putObj (w.heap.size + 1) o))
    (hIR : ∀ pre A B, I pre A → R A B → I pre B) (hIxR : ∀ c pre A B, Ix c pre A → R A B → Ix c pre B)
    (hpre : ∀ r, Pre ((w.alloc (.deferred (some []))).alloc (.loop r))) (h0 : ∀ r, I [] ((w.alloc (.deferred (some []))).alloc (.loop r)))
    (hassign : ∀ (l : Nat) (pre : List α) (x : α) (W : World) (r : Loop), I pre W → It pre x W → W.heap[w.heap.size + 1]? = some (.loop r) → W.heap[w.heap.size]? = some (.deferred (some [])) →
      assign.wpIn (Fence.wide.inRound l) (n - 1 - 1) P (Exit.then (fun a₁ W₁ => KeepLD w.heap.size W W₁ ∧ Kp W W₁ ∧ ∀ r' : Loop, body.wpIn (Fence.wide.inRound l) (n - 1 - 1) P (iterPost w.heap.size Kp I Ix (pre ++ [x]) (W₁.putObj (w.heap.size + 1) (.loop r'))) a₁ (W₁.putObj (w.heap.size + 1) (.loop r'))) (fun _ _ _ => False)) { tmps := (ps.zip (encs x)).foldl (fun t (p, v) => t.setIfInBounds p v) a.tmps, defers := [] } W)
    (hdone : ∀ (xs : List α) (W : World), S xs → I xs W → W.heap[w.heap.size]? = some (.deferred (some [])) → Q .normal { a with defers := { target := .collected w.heap.size, args := #[] } :: a.defers } W)
    (hstop : ∀ (c : Code) (pre : List α) (W : World), Sp pre → Ix c pre W → W.heap[w.heap.size]? = some (.deferred (some [])) → c.wpIn Fence.wide n P Q { a with defers := { target := .collected w.heap.size, args := #[] } :: a.defers } W) :
    (Code.rangeFunc g ps assign body).wpIn Fence.wide n P Q a w := by
  refine wpIn_rangeFunc ?_
  intro fn _
  obtain ⟨rec, hrec⟩ : ∃ rec : LoopState → Option Code → Loop, rec = fun st pe => { state := st, pending := pe, fn, tmps := a.tmps, params := ps, assign, body, defers := w.heap.size } := ⟨_, rfl⟩
  obtain ⟨W1, hW1⟩ : ∃ W1, (w.alloc (.deferred (some []))).alloc (.loop (rec .ready none)) = W1 := ⟨_, rfl⟩
  have hL1 : W1.heap[w.heap.size + 1]? = some (.loop (rec .ready none)) := by
    rw [← hW1]; have := World.alloc_heap_new (w.alloc (.deferred (some []))) (.loop (rec .ready none)); rwa [World.size_alloc] at this
  have hK1 : W1.heap[w.heap.size]? = some (.deferred (some [])) := by
    rw [← hW1]; exact (Below.heap_alloc _ _ _ (by simp)).trans (World.alloc_heap_new w _)
  refine ⟨w.heap.size + 1, [{ target := .collected w.heap.size, args := #[] }], W1, { target := .fn (.func gf) lb, args := #[.func (.yield (w.heap.size + 1)) #[] #[]] }, W1, gf,
    #[.func (.yield (w.heap.size + 1)) #[] #[]] ++ lb, W1, ?_, ?_, ?_, ?_, ?_, ?_⟩
  · rw [← hW1, hrec]; exact run_enterLoop_outer _ _ _ _ _
  · simp only [resolve, hg]
    simp [go_sem]
  · intro f' _; trivial
  · simp [invoke, go_sem, eg]
  · intro h; simp [Fence.wide] at h
  · refine (hseq (n - 1) (w.heap.size + 1)
      (fun pre W => I pre W ∧ W.heap[w.heap.size + 1]? = some (.loop (rec .ready none)) ∧ W.heap[w.heap.size]? = some (.deferred (some [])))
      (fun pre W => ∃ c, Ix c pre W ∧ W.heap[w.heap.size + 1]? = some (.loop (rec .done (some c))) ∧ W.heap[w.heap.size]? = some (.deferred (some [])))
      W1 (hW1 ▸ hpre _) ?_ ?_ ?_ ⟨hW1 ▸ h0 _, hL1, hK1⟩).mono ?_
    · rintro pre A B ⟨hi, hl, hk⟩ hr
      have := hR A B hr (by have := (Array.getElem?_eq_some_iff.1 hl).1; omega)
      exact ⟨hIR _ _ _ hi hr, this.2.trans hl, this.1.trans hk⟩
    · rintro pre A B ⟨c, hi, hl, hk⟩ hr
      have := hR A B hr (by have := (Array.getElem?_eq_some_iff.1 hl).1; omega)
      exact ⟨c, hIxR _ _ _ _ hi hr, this.2.trans hl, this.1.trans hk⟩
    · rintro pre x W ⟨hi, hl, hk⟩ hit
      have hlt : w.heap.size + 1 < W.heap.size := (Array.getElem?_eq_some_iff.1 hl).1
      have hy := run_yield (P := P) (args := encs x) hl (by rw [hrec]; exact hps x)
      rw [hrec] at hy
      refine ⟨fn, _, assign, body, hy, roundIn_of_wpIn trivial (wpIn_mono (hassign _ pre x W _ hi hit hl hk) ?_)⟩
      rintro e0 a1 W0 hp0
      cases e0 with
      | panic _ => exact hp0
      | outgrown => exact hp0
      | ret => exact hp0
      | exit _ => exact hp0
      | goto _ => exact hp0
      | normal =>
      obtain ⟨hkl, hkp0, hm⟩ := hp0
      have hl0 := hkl.2.trans hl
      have hk0 := hkl.1.trans hk
      have hlt0 : w.heap.size + 1 < W0.heap.size := (Array.getElem?_eq_some_iff.1 hl0).1
      refine ⟨_, run_beginRound hl0 (by rw [hrec]), ?_⟩
      have hl2 : (W0.putObj (w.heap.size + 1) (.loop { rec .ready none with state := .busy })).heap[w.heap.size + 1]? = some (.loop { rec .ready none with state := .busy }) := World.putObj_heap_same hlt0
      have hk2 : (W0.putObj (w.heap.size + 1) (.loop { rec .ready none with state := .busy })).heap[w.heap.size]? = some (.deferred (some [])) := (World.putObj_heap_other (by omega)).trans hk0
      have hw2 : Kp W (W0.putObj (w.heap.size + 1) (.loop { rec .ready none with state := .busy })) := hKt _ _ _ hkp0 (hKp _ _ _ hl0)
      refine wpIn_mono (hm _) ?_
      have fin : ∀ (jump : Option Code) (W3 : World), KeepLD w.heap.size (W0.putObj (w.heap.size + 1) (.loop { rec .ready none with state := .busy })) W3 →
          (Instr.endRound (w.heap.size + 1) jump).run P W3 = .ok (.bool jump.isNone) (W3.putObj (w.heap.size + 1) (.loop (rec (if jump.isNone then .ready else .done) jump))) ∧
          W3.heap[w.heap.size + 1]? = some (.loop { rec .ready none with state := .busy }) ∧
          (W3.putObj (w.heap.size + 1) (.loop (rec (if jump.isNone then .ready else .done) jump))).heap[w.heap.size + 1]? = some (.loop (rec (if jump.isNone then .ready else .done) jump)) ∧
          (W3.putObj (w.heap.size + 1) (.loop (rec (if jump.isNone then .ready else .done) jump))).heap[w.heap.size]? = some (.deferred (some [])) := fun jump W3 hk3 => by
        have hl3 := hk3.2.trans hl2
        have := run_endRound (P := P) jump hl3
        rw [hrec] at this ⊢
        exact ⟨this, by rw [hrec] at hl3; exact hl3, World.putObj_heap_same (Array.getElem?_eq_some_iff.1 hl3).1, (World.putObj_heap_other (by omega)).trans (hk3.1.trans hk2)⟩
      rintro e a3 W3 hp
      cases e with
      | normal =>
        obtain ⟨hk3, hkp3, hi3⟩ := hp
        obtain ⟨hr, hl3, hl4, hk4⟩ := fin none W3 hk3
        exact ⟨_, _, hr, .inl ⟨rfl, ⟨hI _ _ _ _ hi3 hl3, hl4, hk4⟩, hKt _ _ _ (hKt _ _ _ hw2 hkp3) (hKp _ _ _ hl3)⟩⟩
      | ret =>
        obtain ⟨hk3, hi3⟩ := hp
        obtain ⟨hr, hl3, hl4, hk4⟩ := fin (some .ret) W3 hk3
        exact ⟨_, _, hr, .inr ⟨rfl, .ret, hIx _ _ _ _ _ hi3 hl3, hl4, hk4⟩⟩
      | exit id =>
        obtain ⟨hk3, hi3⟩ := hp
        obtain ⟨hr, hl3, hl4, hk4⟩ := fin (some (.exit id)) W3 hk3
        exact ⟨_, _, hr, .inr ⟨rfl, .exit id, hIx _ _ _ _ _ hi3 hl3, hl4, hk4⟩⟩
      | goto t =>
        obtain ⟨hk3, hi3⟩ := hp
        obtain ⟨hr, hl3, hl4, hk4⟩ := fin (some (.goto t)) W3 hk3
        exact ⟨_, _, hr, .inr ⟨rfl, .goto t, hIx _ _ _ _ _ hi3 hl3, hl4, hk4⟩⟩
      | panic ch => exact hp.elim
      | outgrown => exact hp.elim
    · rintro e W2 ⟨⟨v, rfl⟩, (⟨xs, hS, hi, hl, hk⟩ | ⟨pre, hSp, c, hi, hl, hk⟩)⟩
      · exact ⟨none, _, by have := run_endLoop (P := P) hl (by rw [hrec]; simp); rw [hrec] at this; exact this, hdone xs _ hS (hI _ _ _ _ hi hl) ((World.putObj_heap_other (by omega)).trans hk)⟩
      · exact ⟨some c, _, by have := run_endLoop (P := P) hl (by rw [hrec]; simp); rw [hrec] at this; exact this, hstop c pre _ hSp (hIx _ _ _ _ _ hi hl) ((World.putObj_heap_other (by omega)).trans hk)⟩
end Go.Proofs.YtefggpdobjboeaaGreat

namespace Go.Proofs.YtefggpdobjboeaaGreat
open Go.RowKit Go.Shelf

def oneL (t : Tri) : List (Int × Int) := List.replicate t.2.2.toNat (t.1, t.2.1)
/-- The ends of all single edges. -/
def singL (es : List Tri) : List (Int × Int) := es.flatMap oneL
theorem sing_take {es : List Tri} {k : Nat} {t : Tri} (h : Hid (es[k]? = some t)) : singL (es.take (k + 1)) = singL (es.take k) ++ oneL t := by
  rw [take_tri h]; simp [singL]
theorem sing_split {es : List Tri} {k : Nat} {t : Tri} (h : Hid (es[k]? = some t)) : singL es = singL (es.take k) ++ (oneL t ++ singL (es.drop (k + 1))) := by
  have e : es = es.take k ++ t :: es.drop (k + 1) := by rw [← drop_at h, List.take_append_drop]
  conv => lhs; rw [e]
  simp [singL]
theorem sing_mem {n : Nat} {es : List Tri} (hE : Edges n es) {x : Int × Int} (hx : x ∈ singL es) : 0 ≤ x.1 ∧ x.1 ≤ x.2 ∧ x.2 < n := by
  unfold singL at hx
  obtain ⟨t, ht, h⟩ := List.mem_flatMap.1 hx
  obtain ⟨_, rfl⟩ := List.mem_replicate.1 h
  exact hE.lo t ht
theorem sing_len : ∀ (es : List Tri), (singL es).length = (es.map fun t => t.2.2.toNat).sum := by
  intro es
  induction es with
  | nil => rfl
  | cons t r ih => simp only [singL, List.flatMap_cons, List.length_append, List.map_cons, List.sum_cons] at ih ⊢; rw [ih]; simp [oneL]

/-- What the iterator of singles reads. -/
def SgPre (hx eb : Nat) (n : Int) (ve : Value) (es : List Tri) (W : World) : Prop := BL W hx 24 [.int .i64 n, ve] ∧ EB W ve es eb
/-- Some blocks, and all edges, are as they were. -/
def SgK (Bs : List Nat) (A C : World) : Prop := LkK Bs A C ∧ ∀ k us, BL A k 76 us → BL C k 76 us
theorem SgK.trans_ {Bs : List Nat} (A B C : World) (h : SgK Bs A B) (h' : SgK Bs B C) : SgK Bs A C :=
  ⟨⟨by have := h.1.1; have := h'.1.1; omega, fun k hk => (h'.1.2 k hk).trans (h.1.2 k hk)⟩, fun k us hb => h'.2 k us (h.2 k us hb)⟩
theorem SgPre.keep {hx eb : Nat} {n : Int} {ve : Value} {es : List Tri} {W W' : World} (h : SgPre hx eb n ve es W) (hk : LkK [hx, eb] W W') : SgPre hx eb n ve es W' :=
  ⟨(hk.2 hx (by simp)).trans h.1, h.2.keep hk.1 (hk.2 eb (by simp))⟩
theorem SgPre.below {hx eb : Nat} {n : Int} {ve : Value} {es : List Tri} {W W' : World} (h : SgPre hx eb n ve es W) (hb : Below W.heap.size W W') : SgPre hx eb n ve es W' :=
  ⟨h.1.bel hb, h.2.below hb⟩

set_option maxRecDepth 100000 in
set_option maxHeartbeats 4000000 in
theorem singles1_iter (hx eb n : Nat) (ve : Value) (es : List Tri) (hE : Edges n es) :
    IterC Tryz.prog 200 #[.pointer (some ⟨hx, 0, none⟩)] (fun x : Int × Int × Int => #[.int .i64 x.1, .agg #[.int .i64 x.2.1, .int .i64 x.2.2]]) (fun pre x _ => ∃ rest, pre.map (·.2) ++ x.2 :: rest = singL es)
      (fun A B => Below A.heap.size A B) (SgK [hx, eb]) (fun xs => xs.map (·.2) = singL es) (fun _ => True) (SgPre hx eb n ve es) := by
  intro N l J Jx W hpre hJ hJx hY h0
  have HJ := Lib.hid hJ
  have HY := Lib.hid hY
  have HP := Lib.hid hpre
  have HE := Lib.hid hE
  obtain ⟨A, c, rfl, hlc, hc, -⟩ := hpre.2.1
  have s1 : W.cell? ⟨hx, 1, none⟩ = some (.slice A es.length c) := BL.cell hpre.1 1
  clear hJ hY hpre hJx hE
  refine callsIn_of_wp Tryz.func200 rfl trivial ?_ rfl
  simp only [Tryz.ntmps200, List.size_toArray, List.length_cons, List.length_nil, Nat.reduceAdd, Nat.reduceSub, Array.replicate_succ, Array.replicate_zero, List.push_toArray, List.append_toArray, List.nil_append, List.cons_append]
  gi_wp2
  clear s1
  gi_loopg [3, 9] es.length (fun k e i wr => ∃ (j : Nat) (ez : Int) (pre : List (Int × Int × Int)), j + k = es.length ∧ e = .int .i64 ez ∧ i = .int .i64 j ∧ Hid (J pre wr) ∧ Hid (pre.map (·.2) = singL (es.take j)) ∧ Hid (SgPre hx eb n (.slice A es.length c) es wr))
  case atStart => exact ⟨0, 0, [], by omega, rfl, rfl, h0, rfl, HP.out⟩
  case round =>
    obtain ⟨j, ez, pre, hjk, rfl, rfl, hj, hp, hpr⟩ := hrel
    by_cases hlt : j < es.length
    · obtain ⟨A', c', he, -, -, hcell⟩ := hpr.out.2.1
      simp only [Value.slice.injEq, true_and] at he
      obtain ⟨rfl, rfl⟩ := he
      obtain ⟨ad, a, a2, m, rfl, hab, ht, c1, c2, c3⟩ := hcell j hlt
      have hbe := HE.out.lo _ (getD_tri ht)
      have hme := HE.out.mult _ (getD_tri ht)
      simp only at hbe hme
      obtain ⟨x, rfl⟩ := Int.eq_ofNat_of_zero_le hbe.1
      obtain ⟨y, rfl⟩ := Int.eq_ofNat_of_zero_le (show 0 ≤ a2 by omega)
      obtain ⟨mn, rfl⟩ := Int.eq_ofNat_of_zero_le (show 0 ≤ m by omega)
      have HT1 := Lib.hid (sing_take ht)
      have HT2 := Lib.hid (sing_split ht)
      obtain ⟨W1, hW1⟩ : ∃ W1, W1 = wr.alloc (.cells #[.int .i64 x, .int .i64 y, .int .i64 mn] 76) := ⟨_, rfl⟩
      have hb1 : Below wr.heap.size wr W1 := by rw [hW1]; exact below_alloc wr _
      have hx1 : BL W1 wr.heap.size 76 [.int .i64 x, .int .i64 y, .int .i64 mn] := by rw [hW1]; exact BL.new' wr _ _
      have HJ1 := Lib.hid (HJ.out pre wr W1 hj.out hb1)
      have HP1 := Lib.hid (hpr.out.below hb1)
      have HX1 := Lib.hid hx1
      have HW1 := Lib.hid hW1
      obtain ⟨K, hK⟩ : ∃ K, K = gk - 1 := ⟨_, rfl⟩
      obtain ⟨B0, hB0⟩ : ∃ B0, B0 = wr.heap.size := ⟨_, rfl⟩
      rw [← hB0] at HX1
      have HB0 := Lib.hid hB0
      clear hcell ht hb1 hx1 hW1 hj hpr hB0
      gi_wp2
      rw [← HW1.out]
      rw [← HB0.out]
      gi_loopg [3, 15] mn (fun k e i w2 => ∃ (v : Nat) (ez : Int) (pre : List (Int × Int × Int)), v + k = mn ∧ e = .int .i64 ez ∧ i = .int .i64 v ∧ Hid (J pre w2) ∧ Hid (pre.map (·.2) = singL (es.take j) ++ List.replicate v ((x : Int), (y : Int))) ∧ Hid (SgPre hx eb n (.slice (some ad) es.length c) es w2) ∧ Hid (BL w2 B0 76 [.int .i64 x, .int .i64 y, .int .i64 mn]))
      case atStart => exact ⟨0, ez, pre, by omega, rfl, rfl, HJ1.out, by show _ = _; rw [hp.out]; simp, HP1.out, HX1.out⟩
      case round =>
        obtain ⟨v, ez2, pre2, hvk, rfl, rfl, hj2, hp2, hpr2, hx2⟩ := hrel
        by_cases hv : v < mn
        · have x0 := hx2.out.cell 0
          have x1 := hx2.out.cell 1
          have hxl := hx2.out.lt
          have H2 : Hid (∃ rest, pre2.map (·.2) ++ ((x : Int), (y : Int)) :: rest = singL es) := by
            refine ⟨List.replicate (mn - v - 1) ((x : Int), (y : Int)) ++ singL (es.drop (j + 1)), ?_⟩
            rw [hp2.out, HT2.out]
            have e : oneL ((x : Int), (y : Int), (mn : Int)) = List.replicate v ((x : Int), (y : Int)) ++ ((x : Int), (y : Int)) :: List.replicate (mn - v - 1) ((x : Int), (y : Int)) := by
              unfold oneL
              simp only [Int.toNat_natCast]
              rw [show mn = v + ((mn - v - 1) + 1) by omega, ← List.replicate_append_replicate, List.replicate_succ]
              simp only [show v + (mn - v - 1 + 1) - v - 1 = mn - v - 1 by omega]
            rw [e]; simp
          obtain ⟨fn, tmps, assign, body, hy, hRd⟩ := HY.out pre2 (ez2, ((x : Int), (y : Int))) _ hj2.out H2.out
          dsimp only at hy hRd
          have HR := Lib.hid hRd
          clear hRd H2
          gi_wp2_with fail
          refine ⟨fun h => (by simp [Fence.wide] at h), HR.out.mono ?_⟩
          rintro e W2 (⟨rfl, hJ2, hk2⟩ | ⟨rfl, hJx2⟩)
          · have HJ2 := Lib.hid hJ2
            have HK2 := Lib.hid hk2
            clear hJ2 hk2 hy
            gi_wp2
            gi_roundg (gk - 1)
            case measure => omega
            case rel => exact ⟨v + 1, _, pre2 ++ [(ez2, ((x : Int), (y : Int)))], by omega, rfl, by go_num, HJ2.out, by show _ = _; rw [List.map_append, hp2.out]; simp [List.replicate_succ'], hpr2.out.keep HK2.out.1, HK2.out.2 _ _ hx2.out⟩
          · clear hy
            gi_wp2
            refine bodyPost_ret (results_none rfl _ _ _) rfl ?_
            exact ⟨⟨_, rfl⟩, .inr ⟨_, trivial, hJx2⟩⟩
        · obtain rfl : v = mn := by omega
          gi_wp2
          gi_roundg K
          case measure => omega
          case rel => exact ⟨j + 1, _, pre2, by omega, rfl, by go_num, hj2.out, by show _ = _; rw [hp2.out, HT1.out]; simp [oneL], hpr2.out⟩
    · have hje : es.take j = es := List.take_of_length_le (by omega)
      rw [hje] at hp
      have HPE := hp
      clear hje
      gi_wp2
      go_end0
      exact ⟨⟨_, rfl⟩, .inl ⟨pre, HPE.out, hj.out⟩⟩
end Go.Proofs.YtefggpdobjboeaaGreat

namespace Go.Proofs.YtefggpdobjboeaaGreat
open Go.RowKit Go.Shelf
attribute [local go_sem] Oper.semAt_some

def flatP (ps : List (Int × Int)) : List Value := ps.flatMap fun p => [.int .i64 p.1, .int .i64 p.2]
theorem flatP_len (ps : List (Int × Int)) : (flatP ps).length = ps.length * 2 := by
  induction ps with
  | nil => rfl
  | cons p r ih => simp only [flatP, List.flatMap_cons, List.length_append, List.length_cons, List.length_nil] at ih ⊢; omega
theorem flatP_get : ∀ (ps : List (Int × Int)) (k : Nat) (p : Int × Int), ps[k]? = some p → (flatP ps)[k * 2]? = some (.int .i64 p.1) ∧ (flatP ps)[k * 2 + 1]? = some (.int .i64 p.2) := by
  intro ps
  induction ps with
  | nil => intro k p h; simp at h
  | cons q r ih =>
    intro k p h
    cases k with
    | zero => simp only [List.getElem?_cons_zero, Option.some.injEq] at h; subst h; simp [flatP]
    | succ k =>
      simp only [List.getElem?_cons_succ] at h
      obtain ⟨h1, h2⟩ := ih k p h
      have e : flatP (q :: r) = .int .i64 q.1 :: .int .i64 q.2 :: flatP r := by simp [flatP]
      rw [e, show (k + 1) * 2 = k * 2 + 1 + 1 by omega]
      simp only [List.getElem?_cons_succ]
      exact ⟨h1, h2⟩
/-- A slice of pairs that the call owns. -/
def OP (w : World) (B : Nat) (v : Value) (ps : List (Int × Int)) : Prop := w.ownsRow B 218 2 v ps.length (flatP ps) ∧ ps.length ≤ 1000000
theorem OP.below {w w' : World} {B : Nat} {v : Value} {ps : List (Int × Int)} (h : OP w B v ps) (hb : Below w.heap.size w w') : OP w' B v ps :=
  ⟨h.1.kept (row := none) ⟨hb.os, hb.tape, hb.output, hb.size, fun k hk _ => hb.block k hk⟩ (by cases v.ownBlock <;> simp), h.2⟩
theorem OP.nil_ (w : World) (B : Nat) : OP w B (.slice none 0 0) [] := ⟨World.ownsRow_nil w B _ 2, by simp⟩
theorem OP.shape {w : World} {B : Nat} {v : Value} {ps : List (Int × Int)} (h : OP w B v ps) : ∃ A c, v = .slice A ps.length c := by
  rcases h.1.2 with ⟨rfl, hn⟩ | ⟨g, cap, cur, rfl, _⟩
  · exact ⟨none, 0, by rw [hn]⟩
  · exact ⟨_, cap, rfl⟩
theorem OP.shape1 {w : World} {B : Nat} {v : Value} {ps : List (Int × Int)} (h : OP w B v ps) (hl : 1 ≤ ps.length) : ∃ g cap, v = .slice (some ⟨g, 0, none⟩) ps.length cap ∧ B ≤ g ∧ g < w.heap.size := by
  rcases h.1.2 with ⟨_, hn⟩ | ⟨g, cap, cur, rfl, hg, hh, _⟩
  · omega
  · exact ⟨g, cap, rfl, hg, lt_of_block hh⟩
theorem OP.block_ {w : World} {B : Nat} {v : Value} {ps : List (Int × Int)} (h : OP w B v ps) {g : Nat} (hg : v.ownBlock = some g) : ∃ cur, w.heap[g]? = some (.cells cur 218 (0, 0)) ∧ B ≤ g ∧ g < w.heap.size := by
  rcases h.1.2 with ⟨rfl, _⟩ | ⟨g', cap, cur, rfl, hB, hh, _⟩
  · simp [Value.ownBlock] at hg
  · simp only [Value.ownBlock, Option.some.injEq] at hg
    subst hg
    exact ⟨cur, hh, hB, lt_of_block hh⟩
theorem OP.keepG {w w' : World} {B : Nat} {v : Value} {ps : List (Int × Int)} (h : OP w B v ps) (hk : ∀ g, v.ownBlock = some g → w'.heap[g]? = w.heap[g]?) : OP w' B v ps := by
  refine ⟨⟨h.1.1, ?_⟩, h.2⟩
  rcases h.1.2 with h2 | ⟨g, cap, cur, hv, hg, hh, r'⟩
  · exact .inl h2
  · exact .inr ⟨g, cap, cur, hv, hg, (hk g (by rw [hv]; rfl)).trans hh, r'⟩
theorem OP.ne_bl {w : World} {B b : Nat} {v : Value} {ps : List (Int × Int)} {T : TypeId} {us : List Value} (h : OP w B v ps) (hb : BL w b T us) (hT : T ≠ 218) {g : Nat} (hg : v.ownBlock = some g) : g ≠ b := by
  rintro rfl
  obtain ⟨c, hc, _⟩ := h.block_ hg
  unfold BL at hb; rw [hb] at hc; simp only [Option.some.injEq, Obj.cells.injEq] at hc; exact hT hc.2.1
theorem OP.mono {w : World} {B B' : Nat} {v : Value} {ps : List (Int × Int)} (h : OP w B v ps) (hB : B' ≤ B) : OP w B' v ps := ⟨OV.mono_own h.1 hB, h.2⟩
theorem OP.shut {w w' : World} {B C : Nat} {v : Value} {ps : List (Int × Int)} (h : OP w C v ps) (hs : Shut B w w') : OP w' C v ps := by
  refine h.keepG fun g hg => ?_
  obtain ⟨c, hc, _⟩ := h.block_ hg
  rcases hs.block g with e | ⟨_, e⟩
  · exact e
  · rw [hc] at e; cases e
/-- An own list of pairs with one more behind it. -/
theorem run_append_pair {P : Program} (w : World) (t ty : TypeId) (i : TypeInfo) (z : Value) (bytes : Nat) (ht : P.underlying t = some (.slice 218)) (hi : P.info? 218 = some i) (hz : i.zero = some z)
    (hsize : i.size = 2) (hby : i.bytes = bytes) (hby2 : bytes ≤ 1000) (hzs : z.cells.size = 2) (B : Nat) (v : Value) (ps : List (Int × Int)) (hown : OP w B v ps) (a b : Int) (hb : ps.length ≤ 999999) (hB : B ≤ w.heap.size) :
    ∃ g cap w', (Builtin.append_ #[t, t] ty #[v, .slice (some ⟨w.heap.size, 0, none⟩) 1 1]).run P (w.alloc (.cells #[.int .i64 a, .int .i64 b] 218)) = .ok (.slice (some ⟨g, 0, none⟩) (ps.length + 1) cap) w' ∧
      OP w' B (.slice (some ⟨g, 0, none⟩) (ps.length + 1) cap) (ps ++ [(a, b)]) ∧ (w.alloc (.cells #[.int .i64 a, .int .i64 b] 218)).grownBy w' v.ownBlock ∧ (v.ownBlock = some g ∨ g = w.heap.size + 1) := by
  have hm : (ps.length + 1) * bytes ≤ 1000001 * 1000 := Nat.mul_le_mul (by omega) hby2
  obtain ⟨v', w', hrun, ho, hg, -, hat⟩ := run_append_own_at (P := P) (w.alloc (.cells #[.int .i64 a, .int .i64 b] 218)) B t ty 218 i z 2 bytes ht hi hz hsize hby hzs (by omega) v ps.length (flatP ps) (OP.below hown (below_alloc w _)).1
    ⟨w.heap.size, 0, none⟩ 1 1 [.int .i64 a, .int .i64 b] rfl (fun j u hu => by
      have h := (BL.new' w #[.int .i64 a, .int .i64 b] 218).cell j
      have e : (⟨w.heap.size, 0, none⟩ : Addr).add j = ⟨w.heap.size, j, none⟩ := by unfold Addr.add; split <;> simp_all
      rw [e, h]; exact hu) (fun u hu => by
      simp only [List.mem_cons, List.not_mem_nil, or_false] at hu
      rcases hu with rfl | rfl <;> rfl) (by unfold maxLen; omega) (by omega) (by simp; omega)
  have hown' : OP w' B v' (ps ++ [(a, b)]) := ⟨by simpa [flatP] using ho, by simp; omega⟩
  obtain ⟨g, cap, rfl, -, -⟩ := hown'.shape1 (by simp)
  simp only [List.length_append, List.length_singleton] at hrun hown'
  refine ⟨g, cap, w', hrun, hown', hg, ?_⟩
  rcases hat with h | h
  · exact .inl (by rw [← h]; rfl)
  · right
    simp only [Value.ownBlock, World.size_alloc, Option.some.injEq] at h
    exact h
theorem singles_any (g : Value) (n : Nat) (es : List Tri) (w : World) (hg : GV w g n es) : Calls Tryz.prog 193 #[g] w fun e w' =>
    e = .returned (.func (.func 200) #[] #[.pointer (some ⟨w.heap.size, 0, none⟩)]) ∧ ∃ ve, g = .agg #[.int .i64 (n : Int), ve] ∧ w.alloc (.cells #[.int .i64 (n : Int), ve] 24) = w' := by
  obtain ⟨A, c, rfl, -, -, -⟩ := hg.open_
  clear hg
  go_enter Tryz.func193, Tryz.ntmps193
  go_wp2
  go_ret
  exact ⟨rfl, _, rfl, rfl⟩
theorem pair_info : (Tryz.prog.info? 218).map (fun i => (i.zero, i.size, i.bytes)) = some (some (.agg #[.int .i64 0, .int .i64 0]), 2, 16) := by kernel_rfl
theorem info_parts' {P : Program} {e : TypeId} {z : Value} {a b : Nat} (h : (P.info? e).map (fun i => (i.zero, i.size, i.bytes)) = some (some z, a, b)) : ∃ i, P.info? e = some i ∧ i.zero = some z ∧ i.size = a ∧ i.bytes = b := by
  cases hq : P.info? e with
  | none => simp [hq] at h
  | some i =>
    simp only [hq, Option.map_some, Option.some.injEq, Prod.mk.injEq] at h
    exact ⟨i, rfl, h.1, h.2.1, h.2.2⟩
/-- What holds while the ends are collected. -/
def EnI (w0 : World) (B ob gb : Nat) (gu : List Value) (pre : List (Int × Int × Int)) (W : World) : Prop :=
  ∃ vo, BL W ob 214 [vo] ∧ OP W B vo (pre.map (·.2)) ∧ Below w0.heap.size w0 W ∧ BL W gb 24 gu
theorem EnI.below {w0 : World} {B ob gb : Nat} {gu : List Value} {pre : List (Int × Int × Int)} {A C : World} (h : EnI w0 B ob gb gu pre A) (hr : Below A.heap.size A C) : EnI w0 B ob gb gu pre C := by
  obtain ⟨vo, h1, h2, h3, h4⟩ := h
  exact ⟨vo, h1.bel hr, h2.below hr, h3.trans (hr.mono h3.size), h4.bel hr⟩
theorem EnI.putLoop {w0 : World} {B ob gb : Nat} {gu : List Value} {pre : List (Int × Int × Int)} {W : World} (h : EnI w0 B ob gb gu pre W) {l : Nat} {r : Loop} (hl : W.heap[l]? = some (.loop r)) (o : Obj) (hw : w0.heap.size ≤ l) : EnI w0 B ob gb gu pre (W.putObj l o) := by
  obtain ⟨vo, h1, h2, h3, h4⟩ := h
  refine ⟨vo, h1.putLoop hl o, h2.keepG fun g hg => World.putObj_heap_other ?_, below_putLoop h3 hw o, h4.putLoop hl o⟩
  rintro rfl
  obtain ⟨c, hc, _⟩ := h2.block_ hg
  rw [hl] at hc; cases hc
set_option maxRecDepth 100000 in
set_option maxHeartbeats 8000000 in
theorem Ends_any (g : Value) (n : Nat) (es : List Tri) (w : World) (hg : GV w g n es) (hE : Edges n es) (h0 : gcheckE n es = 0) (hlen : (singL es).length ≤ 900000) :
    Calls Tryz.prog 184 #[g] w fun e w' => ∃ v, e = .returned (.tuple #[v, .int .i64 0]) ∧ OP w' w.heap.size v (singL es) ∧ Below w.heap.size w w' := by
  obtain ⟨A, c, rfl, -, -, -⟩ := hg.open_
  obtain ⟨i1, hi1, hz01, hz11, hz21⟩ := info_parts' pair_info
  obtain ⟨W0, hW0⟩ : ∃ W0, W0 = w.alloc (.cells #[.int .i64 (n : Int), .slice A es.length c] 24) := ⟨_, rfl⟩
  have hb0 : Below w.heap.size w W0 := by rw [hW0]; exact below_alloc w _
  have hx0 : BL W0 w.heap.size 24 [.int .i64 (n : Int), .slice A es.length c] := by rw [hW0]; exact BL.new' w _ _
  have c0 := hx0.cell 0
  have c1 := hx0.cell 1
  have hz0 : W0.heap.size = w.heap.size + 1 := by rw [hW0]; simp
  have HZ0 := Lib.hid hz0
  have HG0 := Lib.hid (hg.below hb0)
  have hck := gCheck_any _ _ _ W0 HG0.out
  rw [h0] at hck
  have HCk := Lib.hid hck
  have HX0 := Lib.hid hx0
  have HB0 := Lib.hid hb0
  have HW0 := Lib.hid hW0
  have HE := Lib.hid hE
  have HLen := Lib.hid hlen
  rw [hW0] at c0 c1
  clear hg hck hx0 hb0 hW0 hE hlen h0 hz0
  refine (callsIn_wide (n := 3)).1 ?_
  refine callsIn_of_wp_marks Tryz.func184 rfl trivial ?_ rfl
  refine wpIn_wide.2 ?_
  simp only [Tryz.ntmps184, List.size_toArray, List.length_cons, List.length_nil, Nat.reduceAdd, Nat.reduceSub, Array.replicate_succ, Array.replicate_zero, List.push_toArray, List.append_toArray, List.nil_append, List.cons_append]
  go_wp2_with fail
  rw [← HW0.out]
  refine HCk.out.mono ?_
  rintro e w1 ⟨rfl, hb1⟩
  obtain ⟨W2, hW2⟩ : ∃ W2, W2 = w1.alloc (.cells #[.slice none 0 0] 214) := ⟨_, rfl⟩
  have hb2 : Below w1.heap.size w1 W2 := by rw [hW2]; exact below_alloc w1 _
  have ho2 : BL W2 w1.heap.size 214 [.slice none 0 0] := by rw [hW2]; exact BL.new' w1 _ _
  have hx2 := (HX0.out.bel hb1).bel hb2
  have d0 := hx2.cell 0
  have d1 := hx2.cell 1
  have HG2 := Lib.hid ((HG0.out.below hb1).below hb2)
  have HSi := Lib.hid (singles_any _ n es W2 HG2.out)
  have hs1 := hb1.size
  have hz0 := HZ0.out
  obtain ⟨eb, heb, hebl⟩ : ∃ eb, EB W0 (.slice A es.length c) es eb ∧ eb < W0.heap.size := by
    obtain ⟨ev', hev', hEV'⟩ := HG0.out
    simp only [Value.agg.injEq] at hev'
    obtain rfl : ev' = .slice A es.length c := by simpa using hev'.symm
    obtain ⟨eb, h1, h2⟩ := hEV'.toB (by omega)
    exact ⟨eb, h1, h2⟩
  have HEB := Lib.hid ((heb.below hb1).below hb2)
  have HB2 := Lib.hid ((HB0.out.trans (hb1.mono HB0.out.size)).trans (hb2.mono (HB0.out.trans (hb1.mono HB0.out.size)).size))
  have HO2 := Lib.hid ho2
  have hz2 : W2.heap.size = w1.heap.size + 1 := by rw [hW2]; simp
  have HZ2 := Lib.hid hz2
  have HS1 := Lib.hid hs1
  have HW2 := Lib.hid hW2
  rw [hW2] at d0 d1
  clear hb1 hb2 ho2 hx2 hW2 heb hz2 c0 c1 hs1 hz0
  go_wp2_with fail
  rw [← HW2.out]
  refine HSi.out.mono ?_
  rintro e w3 ⟨rfl, ve, hve, rfl⟩
  obtain rfl : Value.slice A es.length c = ve := by simpa using hve
  clear hve d0 d1
  obtain ⟨W3, hW3⟩ : ∃ W3, W3 = W2.alloc (.cells #[.int .i64 (n : Int), .slice A es.length c] 24) := ⟨_, rfl⟩
  have hb3 : Below W2.heap.size W2 W3 := by rw [hW3]; exact below_alloc W2 _
  have hG3 : BL W3 W2.heap.size 24 [.int .i64 (n : Int), .slice A es.length c] := by rw [hW3]; exact BL.new' W2 _ _
  have HZ3 : Hid (W3.heap.size = W2.heap.size + 1) := by show _ = _; rw [hW3]; simp
  have HG3 := Lib.hid hG3
  have HEB3 := Lib.hid (HEB.out.below hb3)
  have HO3 := Lib.hid (HO2.out.bel hb3)
  have HB3 := Lib.hid (HB2.out.trans (hb3.mono HB2.out.size))
  have HW3 := Lib.hid hW3
  have HEl := Lib.hid hebl
  clear hb3 hG3 hW3 hebl
  go_wp2
  rw [← HW3.out]
  have HI3 : Hid (EnI w (w.heap.size + 1) w1.heap.size W2.heap.size [.int .i64 (n : Int), .slice A es.length c] [] W3) := ⟨_, HO3.out, OP.nil_ _ _, HB3.out, HG3.out⟩
  refine (wpIn_wide (n := 3)).1 ?_
  refine wpIn_rangeFunc_iterA (gf := 200) (lb := #[.pointer (some ⟨W2.heap.size, 0, none⟩)]) rfl (enters_of Tryz.func200 (by kernel_rfl) rfl)
    (singles1_iter W2.heap.size eb n (.slice A es.length c) es HE.out) (fun _ => rfl) ?hR (SgK.trans_ (Bs := [W2.heap.size, eb])) ?hKp (EnI w (w.heap.size + 1) w1.heap.size W2.heap.size [.int .i64 (n : Int), .slice A es.length c]) (fun _ _ _ => False) ?hI (fun _ _ _ _ _ h _ => h) ?hIR (fun _ _ _ _ h _ => h) ?hpre ?h0
    ?hassign ?hdone ?hstop
  case hR => intro A' C h hs; exact ⟨h.block _ (by omega), h.block _ (by omega)⟩
  case hKp =>
    intro W r o hl
    exact ⟨LkK_put W _ (by have := HEl.out; have := HZ0.out; have := HZ2.out; have := HZ3.out; have := HS1.out; simp; omega), fun k us hb => hb.putLoop hl o⟩
  case hI => intro pre W r o h hl; exact h.putLoop hl o (by have := HB3.out.size; omega)
  case hIR => intro pre A' C h hr; exact h.below hr
  case hpre =>
    intro r
    have hb := (below_alloc W3 (.deferred (some []))).alloc (by simp) (.loop r)
    exact ⟨HG3.out.bel hb, HEB3.out.below hb⟩
  case h0 =>
    intro r
    exact HI3.out.below ((below_alloc W3 (.deferred (some []))).alloc (by simp) (.loop r))
  case hstop => rintro c pre W _ h _; exact h.elim
  case hassign =>
    rintro l pre x W r hi ⟨rest, hrest⟩ hl hd
    have hlb := lt_of_block hl
    have hdb := lt_of_block hd
    have hpl : pre.length < 900000 := by
      have h := congrArg List.length hrest
      have := HLen.out
      simp at h; omega
    obtain ⟨W4, hW4⟩ : ∃ W4, W4 = W.alloc (.cells #[.int .i64 x.2.1, .int .i64 x.2.2] 176) := ⟨_, rfl⟩
    have hb4 : Below W.heap.size W W4 := by rw [hW4]; exact below_alloc W _
    have hx4 : BL W4 W.heap.size 176 [.int .i64 x.2.1, .int .i64 x.2.2] := by rw [hW4]; exact BL.new' W _ _
    have HI4 := Lib.hid (hi.below hb4)
    have HL4 := Lib.hid ((hb4.block _ hlb).trans hl)
    have HD4 := Lib.hid ((hb4.block _ hdb).trans hd)
    have HX4 := Lib.hid hx4
    have HB4 := Lib.hid hb4
    have HW4 := Lib.hid hW4
    have HLb := Lib.hid hlb
    have HDb := Lib.hid hdb
    have HPl := Lib.hid hpl
    clear hi hrest hl hd hlb hdb hb4 hx4 hW4 hpl
    gi_wp2
    rw [← HW4.out]
    have hz0 := HZ0.out
    have hz2 := HZ2.out
    have hz3 := HZ3.out
    have hs1 := HS1.out
    have hel := HEl.out
    refine ⟨⟨HB4.out.block _ HDb.out, HB4.out.block _ HLb.out⟩, ⟨⟨HB4.out.size, fun k hk => HB4.out.block k ?_⟩, fun k us hb => hb.bel HB4.out⟩, fun r' => ?_⟩
    · have := HDb.out
      simp only [List.mem_cons, List.not_mem_nil, or_false] at hk
      omega
    obtain ⟨W5, hW5⟩ : ∃ W5, W5 = W4.putObj (W3.heap.size + 1) (.loop r') := ⟨_, rfl⟩
    have hi5 : EnI w (w.heap.size + 1) w1.heap.size W2.heap.size [.int .i64 (n : Int), .slice A es.length c] pre W5 := by rw [hW5]; exact HI4.out.putLoop HL4.out _ (by have := HB3.out.size; omega)
    have hx5 : BL W5 W.heap.size 176 [.int .i64 x.2.1, .int .i64 x.2.2] := by rw [hW5]; exact HX4.out.putLoop HL4.out _
    have hd5 : W5.heap[W3.heap.size]? = some (.deferred (some [])) := by rw [hW5]; exact (World.putObj_heap_other (by omega)).trans HD4.out
    have hl5 : W5.heap[W3.heap.size + 1]? = some (.loop r') := by rw [hW5]; exact World.putObj_heap_same (lt_of_block HL4.out)
    rw [← hW5]
    obtain ⟨vo, k1, k2, k3, k4⟩ := hi5
    obtain ⟨A2, c2, rfl⟩ := k2.shape
    obtain ⟨g2, cap2, w', hrun, hown, hgr, hat⟩ := run_append_pair (P := Tryz.prog) W5 214 214 i1 _ 16 Tryz.underlying214 hi1 hz01 hz11 hz21 (by omega) rfl (w.heap.size + 1) _ _ k2 x.2.1 x.2.2 (by have := HPl.out; simp; omega) (by have := k1.lt; have := HB0.out.size; omega)
    have hkt : ∀ b T us, BL W5 b T us → T ≠ 218 → (Value.slice A2 (pre.map (·.2)).length c2).ownBlock ≠ some b := fun b T us hb hT hg => k2.ne_bl hb hT hg rfl
    have hgd : (Value.slice A2 (pre.map (·.2)).length c2).ownBlock ≠ some W3.heap.size := fun hg => by
      obtain ⟨c, hc, _⟩ := k2.block_ hg
      rw [hd5] at hc; cases hc
    have hgl : (Value.slice A2 (pre.map (·.2)).length c2).ownBlock ≠ some (W3.heap.size + 1) := fun hg => by
      obtain ⟨c, hc, _⟩ := k2.block_ hg
      rw [hl5] at hc; cases hc
    have hge : (Value.slice A2 (pre.map (·.2)).length c2).ownBlock ≠ some eb := fun hg => by
      obtain ⟨c, _, h, _⟩ := k2.block_ hg
      omega
    have hk1 : BL w' w1.heap.size 214 [.slice A2 (pre.map (·.2)).length c2] := BL.grown (k1.alloc _) hgr (hkt _ _ _ k1 (by decide))
    have ho2 : w1.heap.size ≠ g2 := by
      rcases hat with h | h
      · rintro rfl; exact hkt _ _ _ k1 (by decide) h
      · have := k1.lt; omega
    obtain ⟨ln, hln⟩ : ∃ ln, ln = (pre.map (·.2)).length := ⟨_, rfl⟩
    rw [← hln] at k1 k2 hrun hown hk1 hgr hat hkt hgd hgl hge
    obtain ⟨nv, hnv⟩ : ∃ nv, nv = Value.slice (some ⟨g2, 0, none⟩) (ln + 1) cap2 := ⟨_, rfl⟩
    have c4 := k1.cell 0
    have c5 := hk1.cell 0
    have f5 := hk1.frozen 0
    have p0 := hx5.cell 0
    have p1 := hx5.cell 1
    have hfin : ∀ j, j < W5.heap.size → (Value.slice A2 ln c2).ownBlock ≠ some j → j ≠ w1.heap.size → (w'.setCell ⟨w1.heap.size, 0, none⟩ (.slice (some ⟨g2, 0, none⟩) (ln + 1) cap2)).heap[j]? = W5.heap[j]? := fun j hj h1 h2 =>
      (heap_setCell_other w' _ j _ h2).trans ((hgr.block j (by rw [World.size_alloc]; omega) (fun e => h1 e.symm)).trans (Below.heap_alloc W5 _ j hj))
    have hszf : W5.heap.size ≤ (w'.setCell ⟨w1.heap.size, 0, none⟩ (.slice (some ⟨g2, 0, none⟩) (ln + 1) cap2)).heap.size := by have := hgr.size; simp at this ⊢; omega
    have hs5 : W3.heap.size + 1 < W5.heap.size := lt_of_block hl5
    have HFin : Hid (KeepLD W3.heap.size W5 (w'.setCell ⟨w1.heap.size, 0, none⟩ (.slice (some ⟨g2, 0, none⟩) (ln + 1) cap2)) ∧ SgK [W2.heap.size, eb] W5 (w'.setCell ⟨w1.heap.size, 0, none⟩ (.slice (some ⟨g2, 0, none⟩) (ln + 1) cap2)) ∧
        EnI w (w.heap.size + 1) w1.heap.size W2.heap.size [.int .i64 (n : Int), .slice A es.length c] (pre ++ [x]) (w'.setCell ⟨w1.heap.size, 0, none⟩ (.slice (some ⟨g2, 0, none⟩) (ln + 1) cap2))) := by
      refine ⟨⟨hfin _ (by omega) hgd (by omega), hfin _ (by omega) hgl (by omega)⟩, ⟨⟨hszf, fun k hk => ?_⟩, fun k us hb => (hfin k hb.lt (hkt _ _ _ hb (by decide)) ?_).trans hb⟩, ⟨_, hk1.set 0 _, ?_, ?_, (hfin _ k4.lt (hkt _ _ _ k4 (by decide)) (by have := HZ2.out; omega)).trans k4⟩⟩
      · simp only [List.mem_cons, List.not_mem_nil, or_false] at hk
        rcases hk with rfl | rfl
        · exact hfin _ (by omega) (hkt _ _ _ k4 (by decide)) (by omega)
        · exact hfin _ (by omega) hge (by omega)
      · rintro rfl
        unfold BL at hb k1; rw [k1] at hb; simp only [Option.some.injEq, Obj.cells.injEq] at hb; exact absurd hb.2.1 (by decide)
      · refine OP.keepG (v := .slice (some ⟨g2, 0, none⟩) (ln + 1) cap2) (by simpa using hown) fun g hg => ?_
        simp only [Value.ownBlock, Option.some.injEq] at hg
        exact heap_setCell_other w' _ _ _ (by simp; omega)
      · have hw1 := HB0.out.size
        refine Below.setCell ?_ (p := ⟨w1.heap.size, 0, none⟩) (by simp; omega) _
        exact (k3.alloc k3.size _).grown hgr (by simp; have := k3.size; omega) (fun k hk => by have := (k2.block_ hk).choose_spec; omega)
    clear hfin hk1 k1 k2 k3 k4 hl5 hd5 hown hgr hat hkt hgd hgl hge hx5 hnv hW5 hz0 hz2 hz3 hs1 hel hszf hs5 hln
    repeat (first | (refine wpListIn_append rfl _ _ _ rfl _ _ (by simp [Act.eval, Act.put]; done) (by simp [Act.eval, Act.put]; done) _ _ hrun ?_) | gi_step)
    gi_wp2
    exact HFin.out
  case hdone =>
    rintro xs W hxs ⟨vo, k1, k2, k3, k4⟩ hD
    rw [hxs] at k2
    obtain ⟨A2, c2, rfl⟩ := k2.shape
    have e0 := k1.cell 0
    have HO := Lib.hid k2
    have HB := Lib.hid k3
    have HD := Lib.hid hD
    clear k1 k2 k3 k4 hD hxs
    go_wp2
    refine leaves_marks (B := w.heap.size) [_] _ ⟨⟨_, rfl, ?_, HD.out, by simp⟩, trivial⟩ fun w' hs' => ⟨_, results_tmp2 rfl _ _ _, _, rfl, (OP.mono HO.out (by omega)).shut hs', Below.shut HB.out hs'⟩
    exact HB3.out.size
end Go.Proofs.YtefggpdobjboeaaGreat
