/- From what the form hands over to the words of the walks: an argument of type graph, of type divisor, of type script. -/
import Derived.Test.YteamhbohgoclgaaGreatDoorP12
import Derived.Deep.Fields
import Derived.Lib.SmallJoins
set_option maxRecDepth 100000
set_option maxHeartbeats 16000000
namespace Go.Proofs.YteamhbohgoclgaaGreatDoor
open Go.ChangeShapes Go.WideShapes Go.ChangeAt Go.RowKit Go.Shelf

theorem own_ : ownKnob Tryz.prog.godebug = none := by kernel_rfl
theorem laidOut_ : laidOutB Tryz.prog = true := by kernel_rfl
theorem cellsInt_ : Tryz.prog.cellsOf 3 = 1 := by kernel_rfl
theorem bytesInt_ : Tryz.prog.bytesOf 3 = 8 := by kernel_rfl
theorem block_lt_of_cell' {W : World} {a : Addr} {v : Value} (h : W.cell? a = some v) : a.block < W.heap.size := by
  rcases Nat.lt_or_ge a.block W.heap.size with h' | h'
  · exact h'
  · simp [World.cell?, Array.getElem?_eq_none h'] at h

theorem cellsEdge_ : Tryz.prog.cellsOf 68 = 3 := by kernel_rfl
theorem bytesEdge_ : Tryz.prog.bytesOf 68 = 24 := by kernel_rfl
/-- A list of what there is for each number. -/
theorem list_of {α : Type} (l : Nat) (p : Nat → α → Prop) (h : ∀ i, i < l → ∃ t, p i t) : ∃ L : List α, L.length = l ∧ ∀ k t, L[k]? = some t → p k t := by
  induction l with
  | zero => exact ⟨[], rfl, fun k t hk => by simp at hk⟩
  | succ l ih =>
    obtain ⟨L, h1, h2⟩ := ih fun i hi => h i (by omega)
    obtain ⟨t, ht⟩ := h l (by omega)
    refine ⟨L ++ [t], by simp [h1], fun k u hk => ?_⟩
    by_cases hkl : k < L.length
    · rw [List.getElem?_append_left hkl] at hk; exact h2 k u hk
    · rw [List.getElem?_append_right (by omega)] at hk
      by_cases e : k = L.length
      · subst e
        simp only [Nat.sub_self, List.getElem?_cons_zero, Option.some.injEq] at hk
        rw [h1, ← hk]; exact ht
      · rw [List.getElem?_eq_none (by simp; omega)] at hk; cases hk
/-- A struct of three ints out of its three cells. -/
theorem edge_of' {H : Type} {enc : TypeId × Value → H} {P : Program} {W : World} {e : TypeId} {f0 f1 f2 : Field} (hu : P.underlying e = some (.struct #[f0, f1, f2])) (hone : Go.Deep.oneCellFields P #[f0, f1, f2] = true) (hC : P.cellsOf e = 3)
    (t0 : P.underlying f0.type = some (.int .i64)) (t1 : P.underlying f1.type = some (.int .i64)) (t2 : P.underlying f2.type = some (.int .i64)) {n : Nat} {cs : List Value} {x : DataW H × List MemPlace} (h : DataW.trod enc P W 0 (fun _ => true) true n e cs = some x) :
    ∃ a b m : Int, cs = [.int .i64 a, .int .i64 b, .int .i64 m] := by
  obtain ⟨xs, k, -, -, hl, hxl, hf⟩ := DataW.trod_struct hu h
  rw [hC] at hl
  obtain ⟨o0, k0⟩ := Go.Deep.hone_of hone 0 f0 rfl
  obtain ⟨o1, k1⟩ := Go.Deep.hone_of hone 1 f1 rfl
  obtain ⟨o2, k2⟩ := Go.Deep.hone_of hone 2 f2 rfl
  match cs, hl with
  | [c0, c1, c2], _ =>
    match xs, hxl with
    | [y0, y1, y2], _ =>
      have h0 := hf 0 f0 rfl
      have h1 := hf 1 f1 rfl
      have h2 := hf 2 f2 rfl
      simp only [o0, k0, o1, k1, o2, k2, List.drop_zero, List.drop_succ_cons, List.take_succ_cons, List.take_zero, List.getElem?_cons_zero, List.getElem?_cons_succ] at h0 h1 h2
      obtain ⟨a, ha, -, -⟩ := DataW.trod_int t0 h0
      obtain ⟨b, hb, -, -⟩ := DataW.trod_int t1 h1
      obtain ⟨m, hm, -, -⟩ := DataW.trod_int t2 h2
      simp only [List.cons.injEq, and_true] at ha hb hm
      exact ⟨a, b, m, by rw [ha, hb, hm]⟩
theorem edge_of {H : Type} {enc : TypeId × Value → H} {W : World} {n : Nat} {cs : List Value} {x : DataW H × List MemPlace} (h : DataW.trod enc Tryz.prog W 0 (fun _ => true) true n 68 cs = some x) : ∃ a b m : Int, cs = [.int .i64 a, .int .i64 b, .int .i64 m] :=
  edge_of' Tryz.underlying68 (by kernel_rfl) cellsEdge_ Tryz.underlying3 Tryz.underlying3 Tryz.underlying3 h
theorem open_graph {H : Type} {enc : TypeId × Value → H} {W : World} {base : Nat} {v : Value} {d : DataW H} {p : List MemPlace} (hv : Value.okWide Tryz.prog W .any base 25 v)
    (h : DataW.Trod enc Tryz.prog W 0 (fun _ => true) true 25 v d p) (hs : ∀ y elems spare, d = .agg [y, .slice elems spare] → (elems.length + spare.length) * 24 ≤ 140737488351232) : ∃ n es, GV W v n es := by
  obtain ⟨v0, v1, y0, y1, n, rfl, rfl, -, h0, h1⟩ := Go.Joins.open_agg2 Tryz.underlying25 (by kernel_rfl) (by kernel_rfl) hv h
  obtain ⟨z, hz, -, -⟩ := DataW.trod_int Tryz.underlying3 h0
  simp only [List.cons.injEq, and_true] at hz
  subst hz
  refine ⟨z, ?_⟩
  rcases Go.Deep.open_slice Tryz.underlying23 h1 with ⟨hcs, -⟩ | ⟨a, len, cap, m, k, D, Pl, hcs, -, hl, -, hm, hx, hi⟩
  · simp only [List.cons.injEq, and_true] at hcs
    subst hcs
    exact ⟨[], _, rfl, none, 0, rfl, Nat.zero_le _, by decide, fun k hk => by simp at hk⟩
  · simp only [List.cons.injEq, and_true] at hcs
    subst hcs
    simp only [if_true] at hm
    have hreach := hs _ _ _ (by rw [hx])
    simp only [List.length_map, List.length_range] at hreach
    obtain ⟨es, hel, hes⟩ := list_of (α := Tri) len (fun i t => W.cell? (a.add (i * 3)) = some (.int .i64 t.1) ∧ W.cell? ⟨(a.add (i * 3)).block, (a.add (i * 3)).off + 1, none⟩ = some (.int .i64 t.2.1) ∧ W.cell? ⟨(a.add (i * 3)).block, (a.add (i * 3)).off + 2, none⟩ = some (.int .i64 t.2.2)) fun i hil => by
      obtain ⟨cs', hc, ht⟩ := hi i (by omega)
      rw [cellsEdge_] at hc
      obtain ⟨x, y, q, rfl⟩ := edge_of ht
      obtain ⟨_, _, hat⟩ := World.cells?_some hc
      have a0 := hat 0 (by omega)
      have a1 := hat 1 (by omega)
      have a2 := hat 2 (by omega)
      simp only [List.getElem?_cons_zero, List.getElem?_cons_succ] at a0 a1 a2
      rw [show (a.add (i * 3)).add 0 = a.add (i * 3) by simp [Addr.add]] at a0
      rw [show (a.add (i * 3)).add 1 = ⟨(a.add (i * 3)).block, (a.add (i * 3)).off + 1, none⟩ by simp [Addr.add]] at a1
      rw [show (a.add (i * 3)).add 2 = ⟨(a.add (i * 3)).block, (a.add (i * 3)).off + 2, none⟩ by simp [Addr.add]] at a2
      exact ⟨(x, y, q), a0, a1, a2⟩
    refine ⟨es, _, rfl, some a, cap, by rw [hel], by omega, by omega, fun k hk => ?_⟩
    obtain ⟨c0, c1, c2⟩ := hes k es[k] (List.getElem?_eq_getElem hk)
    exact ⟨a, es[k].1, es[k].2.1, es[k].2.2, rfl, by have := block_lt_of_cell' c0; rwa [block_of_add] at this, List.getElem?_eq_getElem hk, c0, c1, c2⟩
theorem sized_graph {H : Type} {ts : List TypeId} {ds : List (DataW H)} (hsz : (DataW.weightsEach Tryz.prog ts ds).all (· ≤ reachBytes) = true) {j : Nat} {d : DataW H} (ht : ts[j]? = some 25) (hd : ds[j]? = some d) :
    ∀ y elems spare, d = .agg [y, .slice elems spare] → (elems.length + spare.length) * 24 ≤ 140737488351232 := by
  intro y elems spare e
  subst e
  have := List.all_eq_true.1 hsz _ (DataW.weights_mem_each ht hd ((elems.length + spare.length) * Tryz.prog.bytesOf 68) (by simp [DataW.weights, DataW.weightsEach, Tryz.underlying25, Tryz.underlying23]))
  have h2 := of_decide_eq_true this
  rw [bytesEdge_] at h2
  simp only [reachBytes] at h2
  omega
end Go.Proofs.YteamhbohgoclgaaGreatDoor

