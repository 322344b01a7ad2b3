/- From what the form hands over to the words of the walks: an argument of type graph, of type divisor, of type script.
   From what the form hands over to the words of the walks: the row lists the library's variables. -/
import Derived.Test.YtjfggodnfoknfaaGreatDoorM21
import Derived.Test.YtjfggodnfoknfaaGreatDoorM25
import Derived.Deep.Fields
import Derived.HandedShaped
import Derived.LaidMore
import Derived.Lay
import Derived.Lib.SmallJoins
import Derived.Stop.Joined
import Derived.Stop.LaidErr
import Derived.Test.YtjfggodnfoknfaaGreatDoorCards
import Derived.Test.YtjfggodnfoknfaaGreatDoorTie
set_option maxRecDepth 100000
set_option maxHeartbeats 16000000
namespace Go.Proofs.YtjfggodnfoknfaaGreatDoor
open Go.ChangeShapes Go.WideShapes Go.ChangeAt Go.RowKit Go.Shelf

theorem own_ : ownKnob Tryz.prog.godebug = none := by kernel_rfl
theorem laidOut_ : laidOutB Tryz.prog = true := by kernel_rfl
theorem cellsInt_ : Tryz.prog.cellsOf 3 = 1 := by kernel_rfl
theorem bytesInt_ : Tryz.prog.bytesOf 3 = 8 := by kernel_rfl
theorem block_lt_of_cell' {W : World} {a : Addr} {v : Value} (h : W.cell? a = some v) : a.block < W.heap.size := by
  rcases Nat.lt_or_ge a.block W.heap.size with h' | h'
  · exact h'
  · simp [World.cell?, Array.getElem?_eq_none h'] at h

theorem open_div {H : Type} {enc : TypeId × Value → H} {W : World} {base : Nat} {v : Value} {d : DataW H} {p : List MemPlace} (hv : Value.okWide Tryz.prog W .any base 26 v)
    (h : DataW.Trod enc Tryz.prog W 0 (fun _ => true) true 26 v d p) (hs : ∀ elems spare, d = .slice elems spare → (elems.length + spare.length) * 8 ≤ 140737488351232) : ∃ xs, RI W v xs := by
  obtain ⟨a0, len, cap, rfl⟩ := okWide_slice Tryz.underlying26 hv
  obtain ⟨fuel, hf⟩ := h
  rcases open_ints Tryz.underlying26 Tryz.underlying3 cellsInt_ hf with ⟨hcs, hx⟩ | ⟨a, len', cap', zs, hcs, _, hl, hm, hz, hx, hcell, hwz⟩
  · simp [Value.cells] at hcs
    obtain ⟨rfl, rfl, rfl⟩ := hcs
    exact ⟨[], RI.nil_ W⟩
  · simp [Value.cells] at hcs
    obtain ⟨rfl, rfl, rfl⟩ := hcs
    simp only [Prod.mk.injEq] at hx
    obtain ⟨rfl, rfl⟩ := hx
    simp only [if_true] at hz
    have hreach := hs _ _ rfl
    simp only [lits, List.length_map, List.length_take, List.length_drop] at hreach
    have hlen : (zs.take len).length = len := by rw [List.length_take]; omega
    refine ⟨zs.take len, ?_⟩
    have key := RI.mk_ (w := W) (A := some a) (c := cap) (zs := zs.take len) (by omega) (by omega) fun k z hk => ?_
    · rw [hlen] at key; exact key
    · have hk2 : k < (zs.take len).length := (List.getElem?_eq_some_iff.1 hk).1
      have hkz : k < zs.length := by omega
      have hc := hcell k hkz
      have e : zs.getD k 0 = z := by
        rw [List.getElem?_take, if_pos (by omega)] at hk
        rw [List.getD_eq_getElem?_getD, hk]; rfl
      rw [e] at hc
      exact ⟨a, rfl, by have := block_lt_of_cell' hc; rwa [block_of_add] at this, hc⟩

theorem sized_div {H : Type} {ts : List TypeId} {ds : List (DataW H)} (hsz : (DataW.weightsEach Tryz.prog ts ds).all (· ≤ reachBytes) = true) {j : Nat} {d : DataW H} (ht : ts[j]? = some 26) (hd : ds[j]? = some d) :
    ∀ elems spare, d = .slice elems spare → (elems.length + spare.length) * 8 ≤ 140737488351232 := by
  intro elems spare e
  subst e
  have := sized_slice hsz ht hd Tryz.underlying26
  rw [bytesInt_] at this
  simp only [reachBytes] at this
  omega
theorem cellsEdge_ : Tryz.prog.cellsOf 54 = 3 := by kernel_rfl
theorem bytesEdge_ : Tryz.prog.bytesOf 54 = 24 := by kernel_rfl
/-- A list of what there is for each number. -/
theorem list_of {α : Type} (l : Nat) (p : Nat → α → Prop) (h : ∀ i, i < l → ∃ t, p i t) : ∃ L : List α, L.length = l ∧ ∀ k t, L[k]? = some t → p k t := by
  induction l with
  | zero => exact ⟨[], rfl, fun k t hk => by simp at hk⟩
  | succ l ih =>
    obtain ⟨L, h1, h2⟩ := ih fun i hi => h i (by omega)
    obtain ⟨t, ht⟩ := h l (by omega)
    refine ⟨L ++ [t], by simp [h1], fun k u hk => ?_⟩
    by_cases hkl : k < L.length
    · rw [List.getElem?_append_left hkl] at hk; exact h2 k u hk
    · rw [List.getElem?_append_right (by omega)] at hk
      by_cases e : k = L.length
      · subst e
        simp only [Nat.sub_self, List.getElem?_cons_zero, Option.some.injEq] at hk
        rw [h1, ← hk]; exact ht
      · rw [List.getElem?_eq_none (by simp; omega)] at hk; cases hk
/-- A struct of three ints out of its three cells. -/
theorem edge_of' {H : Type} {enc : TypeId × Value → H} {P : Program} {W : World} {e : TypeId} {f0 f1 f2 : Field} (hu : P.underlying e = some (.struct #[f0, f1, f2])) (hone : Go.Deep.oneCellFields P #[f0, f1, f2] = true) (hC : P.cellsOf e = 3)
    (t0 : P.underlying f0.type = some (.int .i64)) (t1 : P.underlying f1.type = some (.int .i64)) (t2 : P.underlying f2.type = some (.int .i64)) {n : Nat} {cs : List Value} {x : DataW H × List MemPlace} (h : DataW.trod enc P W 0 (fun _ => true) true n e cs = some x) :
    ∃ a b m : Int, cs = [.int .i64 a, .int .i64 b, .int .i64 m] := by
  obtain ⟨xs, k, -, -, hl, hxl, hf⟩ := DataW.trod_struct hu h
  rw [hC] at hl
  obtain ⟨o0, k0⟩ := Go.Deep.hone_of hone 0 f0 rfl
  obtain ⟨o1, k1⟩ := Go.Deep.hone_of hone 1 f1 rfl
  obtain ⟨o2, k2⟩ := Go.Deep.hone_of hone 2 f2 rfl
  match cs, hl with
  | [c0, c1, c2], _ =>
    match xs, hxl with
    | [y0, y1, y2], _ =>
      have h0 := hf 0 f0 rfl
      have h1 := hf 1 f1 rfl
      have h2 := hf 2 f2 rfl
      simp only [o0, k0, o1, k1, o2, k2, List.drop_zero, List.drop_succ_cons, List.take_succ_cons, List.take_zero, List.getElem?_cons_zero, List.getElem?_cons_succ] at h0 h1 h2
      obtain ⟨a, ha, -, -⟩ := DataW.trod_int t0 h0
      obtain ⟨b, hb, -, -⟩ := DataW.trod_int t1 h1
      obtain ⟨m, hm, -, -⟩ := DataW.trod_int t2 h2
      simp only [List.cons.injEq, and_true] at ha hb hm
      exact ⟨a, b, m, by rw [ha, hb, hm]⟩
theorem edge_of {H : Type} {enc : TypeId × Value → H} {W : World} {n : Nat} {cs : List Value} {x : DataW H × List MemPlace} (h : DataW.trod enc Tryz.prog W 0 (fun _ => true) true n 54 cs = some x) : ∃ a b m : Int, cs = [.int .i64 a, .int .i64 b, .int .i64 m] :=
  edge_of' Tryz.underlying54 (by kernel_rfl) cellsEdge_ Tryz.underlying3 Tryz.underlying3 Tryz.underlying3 h
theorem open_graph {H : Type} {enc : TypeId × Value → H} {W : World} {base : Nat} {v : Value} {d : DataW H} {p : List MemPlace} (hv : Value.okWide Tryz.prog W .any base 24 v)
    (h : DataW.Trod enc Tryz.prog W 0 (fun _ => true) true 24 v d p) (hs : ∀ y elems spare, d = .agg [y, .slice elems spare] → (elems.length + spare.length) * 24 ≤ 140737488351232) : ∃ n es, GV W v n es := by
  obtain ⟨v0, v1, y0, y1, n, rfl, rfl, -, h0, h1⟩ := Go.Joins.open_agg2 Tryz.underlying24 (by kernel_rfl) (by kernel_rfl) hv h
  obtain ⟨z, hz, -, -⟩ := DataW.trod_int Tryz.underlying3 h0
  simp only [List.cons.injEq, and_true] at hz
  subst hz
  refine ⟨z, ?_⟩
  rcases Go.Deep.open_slice Tryz.underlying22 h1 with ⟨hcs, -⟩ | ⟨a, len, cap, m, k, D, Pl, hcs, -, hl, -, hm, hx, hi⟩
  · simp only [List.cons.injEq, and_true] at hcs
    subst hcs
    exact ⟨[], _, rfl, none, 0, rfl, Nat.zero_le _, by decide, fun k hk => by simp at hk⟩
  · simp only [List.cons.injEq, and_true] at hcs
    subst hcs
    simp only [if_true] at hm
    have hreach := hs _ _ _ (by rw [hx])
    simp only [List.length_map, List.length_range] at hreach
    obtain ⟨es, hel, hes⟩ := list_of (α := Tri) len (fun i t => W.cell? (a.add (i * 3)) = some (.int .i64 t.1) ∧ W.cell? ⟨(a.add (i * 3)).block, (a.add (i * 3)).off + 1, none⟩ = some (.int .i64 t.2.1) ∧ W.cell? ⟨(a.add (i * 3)).block, (a.add (i * 3)).off + 2, none⟩ = some (.int .i64 t.2.2)) fun i hil => by
      obtain ⟨cs', hc, ht⟩ := hi i (by omega)
      rw [cellsEdge_] at hc
      obtain ⟨x, y, q, rfl⟩ := edge_of ht
      obtain ⟨_, _, hat⟩ := World.cells?_some hc
      have a0 := hat 0 (by omega)
      have a1 := hat 1 (by omega)
      have a2 := hat 2 (by omega)
      simp only [List.getElem?_cons_zero, List.getElem?_cons_succ] at a0 a1 a2
      rw [show (a.add (i * 3)).add 0 = a.add (i * 3) by simp [Addr.add]] at a0
      rw [show (a.add (i * 3)).add 1 = ⟨(a.add (i * 3)).block, (a.add (i * 3)).off + 1, none⟩ by simp [Addr.add]] at a1
      rw [show (a.add (i * 3)).add 2 = ⟨(a.add (i * 3)).block, (a.add (i * 3)).off + 2, none⟩ by simp [Addr.add]] at a2
      exact ⟨(x, y, q), a0, a1, a2⟩
    refine ⟨es, _, rfl, some a, cap, by rw [hel], by omega, by omega, fun k hk => ?_⟩
    obtain ⟨c0, c1, c2⟩ := hes k es[k] (List.getElem?_eq_getElem hk)
    exact ⟨a, es[k].1, es[k].2.1, es[k].2.2, rfl, by have := block_lt_of_cell' c0; rwa [block_of_add] at this, List.getElem?_eq_getElem hk, c0, c1, c2⟩
theorem sized_graph {H : Type} {ts : List TypeId} {ds : List (DataW H)} (hsz : (DataW.weightsEach Tryz.prog ts ds).all (· ≤ reachBytes) = true) {j : Nat} {d : DataW H} (ht : ts[j]? = some 24) (hd : ds[j]? = some d) :
    ∀ y elems spare, d = .agg [y, .slice elems spare] → (elems.length + spare.length) * 24 ≤ 140737488351232 := by
  intro y elems spare e
  subst e
  have := List.all_eq_true.1 hsz _ (DataW.weights_mem_each ht hd ((elems.length + spare.length) * Tryz.prog.bytesOf 54) (by simp [DataW.weights, DataW.weightsEach, Tryz.underlying24, Tryz.underlying22]))
  have h2 := of_decide_eq_true this
  rw [bytesEdge_] at h2
  simp only [reachBytes] at h2
  omega
end Go.Proofs.YtjfggodnfoknfaaGreatDoor

namespace Go.Proofs.YtjfggodnfoknfaaGreatDoor
open Go.ChangeShapes Go.WideShapes Go.ChangeAt Go.RowKit Go.Shelf

/-- A row that lists variables, with the world's shape for the contract. -/
theorem returns_laid_shaped {H : Type} {enc : TypeId × Value → H} {a : Assume} {C : Checked} {os : Os} {f : FuncId} {fn : Func} {s : ChangeSpec} {conds : List PathCond} {apart fresh handsOn again : Bool} {X : World → Array Value → Prop}
    (hX : ∀ (w w' : World) (args : Array Value), w.heap = w'.heap → X w args → X w' args)
    (own : ownKnob C.prog.godebug = none) (started : os.Started) (noInit : C.prog.inits.idxOf? f = none) (hfn : C.prog.funcs[f]? = some fn)
    (witness : ∃ (w : World) (tape : Tape) (i : Input), w.os = os ∧ (w.forCall tape i).Shaped C.prog ∧ i.vars = [] ∧ Input.okWide C.prog (w.forCall tape i) .any w.heap.size f i ∧
      ((s.pre enc C.prog fn conds apart (w.forCall tape i).memory i.args ∧ X (w.forCall tape i).memory i.args) ∧ sizedMet enc C.prog fn (OpenSpec.ofChange s) apart (w.forCall tape i).memory i.args) ∧ a.holds C.prog (lone (Frame.enter C.prog f i.args .normal) [] (w.forCall tape i)))
    (contract : ∀ (W : World) (base : Nat) (args : Array Value) (ds gs : List (DataW H)) (before : List MemPlace),
      (∀ (j : Nat) t v, fn.params[j]? = some t → args[j]? = some v → Value.okWide C.prog W .any base t v) →
      DataW.Whole enc C.prog fn.params.toList s.vars apart W args.toList ds gs before →
      (DataW.weightsEach C.prog (fn.params.toList ++ s.plain.varTypes C.prog) (ds ++ gs)).all (· ≤ reachBytes) = true → X W args → W.ShapedOpen C.prog →
      Calls C.prog f args W fun e W' => ∃ v, e = .returned v ∧ s.post enc C.prog fn apart fresh handsOn again W args v W') :
    ReturnsInHanded a C os f .any (fun w args => (s.pre enc C.prog fn conds apart w args ∧ X w args) ∧ sizedMet enc C.prog fn (OpenSpec.ofChange s) apart w args) (s.post enc C.prog fn apart fresh handsOn again) := by
  refine returnsInHanded_of_calls own started noInit witness ?_
  intro w tape i _ hsh _ hok hpre _
  obtain ⟨_, _, _, fn', hfn', _, _, _, _, hval⟩ := hok
  have e : fn' = fn := Option.some.inj (hfn'.symm.trans hfn)
  subst e
  obtain ⟨⟨⟨ds, gs, before, hw, -⟩, hx⟩, hz⟩ := hpre
  have hw' := DataW.Whole.of_heap (w' := w.forCall tape i) (by rfl) hw
  refine (contract (w.forCall tape i) w.heap.size i.args ds gs before hval hw' (hz.weights hw) (hX _ _ _ (by rfl) hx) hsh).mono fun e W' ⟨v, he, hp⟩ => ?_
  subst he
  exact ChangeSpec.post_blind hp
theorem gPow_ : Tryz.prog.globalNamed "internal/strconv.uint64pow10" = some 0 := by kernel_rfl
theorem tPow_ : (Tryz.prog.globals[0]?).map (·.type) = some 276 := by kernel_rfl
theorem tb_of_laid {W : World} (hL : laidMetH Tryz.prog Rows.equivalenceCountsRow.laid W) : TB W := by
  rw [MakeChecks.laidMetH_plain _ _ _ (by kernel_rfl)] at hL
  exact Go.Lib.tabIs_of_head gPow_ tPow_ Tryz.underlying276 Tryz.underlying117 (by kernel_rfl) (by kernel_rfl) hL.tail.tail
end Go.Proofs.YtjfggodnfoknfaaGreatDoor

