/- From what the form hands over to the words of the walks: an argument of type divisor, of type int. -/
import Derived.Test.YtcmkllfocifnlaaAwake
import Derived.ProofKit
import Derived.SizedLaws
namespace Go.Proofs.Ytcmkllfocifnlaa
open Go.ChangeShapes Go.WideShapes Go.ChangeAt Go.RowKit Go.Shelf

theorem own_ : ownKnob Try.prog.godebug = none := by kernel_rfl
theorem laidOut_ : laidOutB Try.prog = true := by kernel_rfl
theorem cellsInt_ : Try.prog.cellsOf 3 = 1 := by kernel_rfl
theorem bytesInt_ : Try.prog.bytesOf 3 = 8 := by kernel_rfl
theorem block_lt_of_cell {W : World} {a : Addr} {v : Value} (h : W.cell? a = some v) : a.block < W.heap.size := by
  rcases Nat.lt_or_ge a.block W.heap.size with h' | h'
  · exact h'
  · simp [World.cell?, Array.getElem?_eq_none h'] at h

theorem open_div {H : Type} {enc : TypeId × Value → H} {W : World} {base : Nat} {v : Value} {d : DataW H} {p : List MemPlace} (hv : Value.okWide Try.prog W .any base 23 v)
    (h : DataW.Trod enc Try.prog W 0 (fun _ => true) true 23 v d p) (hs : ∀ elems spare, d = .slice elems spare → (elems.length + spare.length) * 8 ≤ 140737488351232) : ∃ xs, RI W v xs := by
  obtain ⟨a0, len, cap, rfl⟩ := okWide_slice Try.underlying23 hv
  obtain ⟨fuel, hf⟩ := h
  rcases open_ints Try.underlying23 Try.underlying3 cellsInt_ hf with ⟨hcs, hx⟩ | ⟨a, len', cap', zs, hcs, _, hl, hm, hz, hx, hcell, hwz⟩
  · simp [Value.cells] at hcs
    obtain ⟨rfl, rfl, rfl⟩ := hcs
    exact ⟨[], RI.nil_ W⟩
  · simp [Value.cells] at hcs
    obtain ⟨rfl, rfl, rfl⟩ := hcs
    simp only [Prod.mk.injEq] at hx
    obtain ⟨rfl, rfl⟩ := hx
    simp only [if_true] at hz
    have hreach := hs _ _ rfl
    simp only [lits, List.length_map, List.length_take, List.length_drop] at hreach
    have hlen : (zs.take len).length = len := by rw [List.length_take]; omega
    refine ⟨zs.take len, ?_⟩
    have key := RI.mk_ (w := W) (A := some a) (c := cap) (zs := zs.take len) (by omega) (by omega) fun k z hk => ?_
    · rw [hlen] at key; exact key
    · have hk2 : k < (zs.take len).length := (List.getElem?_eq_some_iff.1 hk).1
      have hkz : k < zs.length := by omega
      have hc := hcell k hkz
      have e : zs.getD k 0 = z := by
        rw [List.getElem?_take, if_pos (by omega)] at hk
        rw [List.getD_eq_getElem?_getD, hk]; rfl
      rw [e] at hc
      exact ⟨a, rfl, by have := block_lt_of_cell hc; rwa [block_of_add] at this, hc⟩

theorem sized_div {H : Type} {ts : List TypeId} {ds : List (DataW H)} (hsz : (DataW.weightsEach Try.prog ts ds).all (· ≤ reachBytes) = true) {j : Nat} {d : DataW H} (ht : ts[j]? = some 23) (hd : ds[j]? = some d) :
    ∀ elems spare, d = .slice elems spare → (elems.length + spare.length) * 8 ≤ 140737488351232 := by
  intro elems spare e
  subst e
  have := sized_slice hsz ht hd Try.underlying23
  rw [bytesInt_] at this
  simp only [reachBytes] at this
  omega
end Go.Proofs.Ytcmkllfocifnlaa
