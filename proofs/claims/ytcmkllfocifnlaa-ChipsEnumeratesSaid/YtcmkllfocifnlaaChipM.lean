/- chips.All by its contract. -/
import Derived.Test.YtcmkllfocifnlaaChipL
import Derived.Test.YtcmkllfocifnlaaCompMath
namespace Go.Proofs.Ytcmkllfocifnlaa
open Go.RowKit Go.Shelf

def allL (n k : Int) : List (List Int) × Int :=
  if vertE n ≠ 0 then ([], vertE n) else if k < 0 ∨ 1048576 < k then ([], 2) else if 16384 < cnt (n.toNat - 1) k.toNat then ([], 12) else (comps (n.toNat - 1) k.toNat, 0)
def PairS (w : World) (l : List (List Int) × Int) (e : Ending) (w' : World) : Prop := ∃ v, e = .returned (.tuple #[v, .int .i64 l.2]) ∧ RR w' v l.1 ∧ Below w.heap.size w w'
theorem RR.nil_ (w : World) : RR w (.slice none 0 0) [] := ⟨[], RV.nil_ w, rfl, fun k z h => by simp at h⟩

theorem le_sum {z : List Int} (h : ∀ x ∈ z, 0 ≤ x) {t : Int} (ht : t ∈ z) : t ≤ z.sum := by
  have pos : ∀ l : List Int, (∀ x ∈ l, 0 ≤ x) → 0 ≤ l.sum := by
    intro l
    induction l with
    | nil => simp
    | cons c l ih =>
      intro h
      have h1 := ih fun x hx => h x (List.mem_cons_of_mem _ hx)
      have h2 := h c (List.mem_cons_self ..)
      simp only [List.sum_cons]
      omega
  induction z with
  | nil => cases ht
  | cons b r ih =>
    have h1 := pos r fun x hx => h x (List.mem_cons_of_mem _ hx)
    have h2 := h b (List.mem_cons_self ..)
    simp only [List.sum_cons]
    rcases List.mem_cons.1 ht with rfl | ht
    · omega
    · have := ih (fun x hx => h x (List.mem_cons_of_mem _ hx)) ht
      omega
theorem own_zeros {w : World} {B g m : Nat} (h : w.ownsRow B 3 1 (.slice (some ⟨g, 0, none⟩) m m) m (madeCells (Value.int IntKind.i64 0).cells (m * 1)).toList) (hm : m ≤ 17592186044415) :
    OI w B (.slice (some ⟨g, 0, none⟩) m m) (List.replicate m 0) := by
  simp only [Nat.mul_one, Value.cells, toList_madeCells_one] at h
  exact ⟨by simpa using h, by simpa using hm⟩
theorem zeros_at (m k : Nat) : (List.replicate m (0 : Int)).getD k 0 = 0 := by rw [List.getD_eq_getElem?_getD, List.getElem?_replicate]; split <;> rfl
theorem firstC_set {m q : Nat} (hm : 1 ≤ m) : firstC (m - 1) q = (List.replicate m (0 : Int)).set (m - 1) q := by
  obtain ⟨n, rfl⟩ : ∃ n, m = n + 1 := ⟨m - 1, by omega⟩
  simp only [Nat.add_sub_cancel, firstC]
  apply List.ext_getElem
  · simp
  · intro i h1 h2
    simp only [List.getElem_append, List.length_replicate, List.getElem_replicate, List.getElem_set, List.getElem_singleton]
    simp only [List.length_append, List.length_replicate, List.length_singleton] at h1
    by_cases e : n = i
    · simp [e]
    · simp [e, show i < n by omega]
theorem from_any (A : Option Addr) (n c : Nat) (w : World) : Calls Try.prog 65 #[.slice A n c] w fun e w' => e = .returned (.func (.func 86) #[] #[.pointer (some ⟨w.heap.size, 0, none⟩)]) ∧ w.alloc (.cells #[.slice A n c] 23) = w' := by
  go_enter Try.func65, Try.ntmps65
  go_wp2
  go_ret
  exact ⟨rfl, rfl⟩

set_option maxRecDepth 100000 in
set_option maxHeartbeats 1000000 in
theorem All_any (n k : Int) (w : World) : Calls Try.prog 23 #[.int .i64 n, .int .i64 k] w (PairS w (allL n k)) := by
  obtain ⟨i0, hi, hz0, hz1, hz2⟩ := info_parts int_info
  by_cases h1 : n < 1 ∨ 12 < n
  · have e1 : vertE n = 2 := by simp [vertE, h1]
    have E : Hid (allL n k = ([], 2)) := by show _ = _; simp [allL, e1]
    have e2 : (vertE n != 0) = true := by simp [e1]
    have E1 := Lib.hid e1
    rw [E.out]
    clear h1 e1
    go_enter Try.func23, Try.ntmps23
    go_wp2_with (go_at_call 63; refine (vertices_any _ _).mono ?_; rintro e w' ⟨rfl, rfl⟩)
    go_ret2
    refine ⟨.slice none 0 0, ?_, RR.nil_ _, Below.refl _ _⟩
    rw [← E1.out]; rfl
  have e1 : vertE n = 0 := by simp [vertE, h1]
  by_cases h2 : k < 0 ∨ 1048576 < k
  · have E : Hid (allL n k = ([], 2)) := by show _ = _; simp [allL, e1, h2]
    rw [E.out]
    clear h1
    by_cases h3 : k < 0
    · clear h2
      go_enter Try.func23, Try.ntmps23
      go_wp2_with (go_at_call 63; refine (vertices_any _ _).mono ?_; rintro e w' ⟨rfl, rfl⟩)
      go_ret2
      exact ⟨.slice none 0 0, rfl, RR.nil_ _, Below.refl _ _⟩
    · have h4 : 1048576 < k := by omega
      clear h2
      go_enter Try.func23, Try.ntmps23
      go_wp2_with (go_at_call 63; refine (vertices_any _ _).mono ?_; rintro e w' ⟨rfl, rfl⟩)
      go_ret2
      exact ⟨.slice none 0 0, rfl, RR.nil_ _, Below.refl _ _⟩
  obtain ⟨m, rfl⟩ := Int.eq_ofNat_of_zero_le (show 0 ≤ n by omega)
  obtain ⟨q, rfl⟩ := Int.eq_ofNat_of_zero_le (show 0 ≤ k by omega)
  have hm1 : 1 ≤ m := by omega
  have hm2 : m ≤ 12 := by omega
  have hq : q ≤ 1048576 := by omega
  have E : Hid (allL m q = if 16384 < cnt (m - 1) q then ([], 12) else (comps (m - 1) q, 0)) := by
    show _ = _; simp only [allL, e1, ne_eq, not_true_eq_false, if_false, h2, Int.toNat_natCast]
  clear h1 h2
  go_enter Try.func23, Try.ntmps23
  go_wp2_with (go_at_call 63; refine (vertices_any _ _).mono ?_; rintro e w' ⟨rfl, rfl⟩)
  go_loop [7, 8] (fun c i => ∃ (j x : Nat), j + 1 ≤ m ∧ i = .int .i64 ((j : Int) + 1) ∧ c = .int .i64 x ∧ Hid (x = cnt j q) ∧ x ≤ 16384) (fun _ i => m - (intOf i).toNat)
  case atStart => exact ⟨0, 1, by omega, rfl, rfl, rfl, by omega⟩
  case round =>
    obtain ⟨j, x, hj, rfl, rfl, hx, hxl⟩ := hrel
    by_cases hlt : j + 1 < m
    · have hb : 0 ≤ (x : Int) * ((q : Int) + ((j : Int) + 1)) ∧ (x : Int) * ((q : Int) + ((j : Int) + 1)) ≤ 17179869184000 := by
        constructor
        · exact Int.mul_nonneg (by omega) (by omega)
        · exact Int.le_trans (Int.mul_le_mul (show (x : Int) ≤ 16384 by omega) (show (q : Int) + ((j : Int) + 1) ≤ 1048600 by omega) (by omega) (by omega)) (by omega)
      have hdiv : (x : Int) * ((q : Int) + ((j : Int) + 1)) / ((j : Int) + 1) = (cnt (j + 1) q : Int) := by
        rw [hx.out, ← cnt_div j q]; push_cast; rw [Int.add_assoc]
      obtain ⟨y, hy⟩ : ∃ y, y = cnt (j + 1) q := ⟨_, rfl⟩
      rw [← hy] at hdiv
      have HY := Lib.hid hy
      clear hy
      by_cases hyl : y ≤ 16384
      · go_wp2
        go_round
        case rel => exact ⟨j + 1, y, by omega, by go_num, by rw [hdiv], HY.out, hyl⟩
        case measure => simp [intOf]; omega
      · have hall : Hid (allL m q = ([], 12)) := by
          show _ = _
          rw [E.out, if_pos]
          have := cnt_mono (show j + 1 ≤ m - 1 by omega) q
          have := HY.out
          omega
        rw [hall.out]
        go_wp2
        go_ret2
        exact ⟨.slice none 0 0, rfl, RR.nil_ _, Below.refl _ _⟩
    · have hjm : j = m - 1 := by omega
      have hall : Hid (allL m q = (comps (m - 1) q, 0)) := by
        show _ = _
        rw [E.out, if_neg]
        rw [← hjm, ← hx.out]; omega
      rw [hall.out]
      have hlen : Hid ((comps (m - 1) q).length ≤ 1000000) := by
        show _ ≤ _; have := hx.out; rw [hjm] at this; show cnt (m - 1) q ≤ _; omega
      clear hjm
      have hch := Lib.hid (comps_chain (m - 1) q)
      have hgood : Hid (∀ z ∈ comps (m - 1) q, Good z) := by
        intro z hz
        obtain ⟨a1, a2, a3⟩ := comps_mem hz
        refine ⟨by omega, by omega, fun t ht => ?_⟩
        have h0 := a3 t ht
        have h1 : t ≤ z.sum := by
          exact le_sum a3 ht
        omega
      go_wp2_with (at_make; refine wpList_make_full _ rfl _ _ _ rfl w.heap.size 3 i0 _ 1 Try.underlying23 hi hz0 hz1 .i64 .i64 _ _ m rfl rfl rfl rfl (by rw [hz2]; omega) (by unfold maxLen; omega) (by simp) ?_; intro w1 hown1 hg1; obtain ⟨-, -, hc1, hf1, hst1⟩ := OI.at' (own_zeros hown1 (by omega)) (k := m - 1) (by simp; omega); obtain ⟨hs1, hs2⟩ := hst1 q; rw [zeros_at] at hc1; have HS := Lib.hid hs1; have HG2 := Lib.hid hs2; have HG := Lib.hid hg1; clear hown1 hg1 hst1 hs1 hs2)
      have hA : OI (w1.setCell ⟨w.heap.size, m - 1, none⟩ (.int .i64 q)) w.heap.size (.slice (some ⟨w.heap.size, 0, none⟩) m m) (firstC (m - 1) q) := by
        rw [firstC_set hm1]; exact HS.out
      have hB : Below w.heap.size w (w1.setCell ⟨w.heap.size, m - 1, none⟩ (.int .i64 q)) := (below_grown HG.out (Below.refl _ _)).setCell (p := ⟨w.heap.size, m - 1, none⟩) (Nat.le_refl _) _
      have hlt2 : w.heap.size < (w1.setCell ⟨w.heap.size, m - 1, none⟩ (.int .i64 q)).heap.size := by
        obtain ⟨g, cap, e, hg, hl⟩ := OV.shape hA (by simp [firstC])
        simp only [Value.slice.injEq, Option.some.injEq, Addr.mk.injEq, and_true] at e
        obtain ⟨rfl, -⟩ := e
        exact hl
      generalize w1.setCell ⟨w.heap.size, m - 1, none⟩ (.int .i64 q) = W2 at *
      have HA := Lib.hid hA
      have HB := Lib.hid hB
      clear hA hB
      have hpre : fromPre w.heap.size W2.heap.size (W2.heap.size + 1) m m (firstC (m - 1) q) (W2.alloc (.cells #[.slice (some ⟨w.heap.size, 0, none⟩) m m] 23)) :=
        ⟨by omega, by omega, by omega, by simp, heap_alloc_new _ _, OI.below HA.out (below_alloc W2 _)⟩
      have HC := Lib.hid (Collect_any _ _ _ _ _ _ _ hch.out hgood.out hlen.out _ hpre)
      clear hpre
      refine (from_any _ _ _ W2).mono ?_
      rintro e w3 ⟨rfl, rfl⟩
      go_wp2_with (go_at_call 64; refine HC.out.mono ?_; rintro e w4 ⟨v, rfl, hr, hg4⟩)
      rw [hall.out]
      go_ret2
      refine ⟨v, rfl, hr, ?_⟩
      exact (HB.out.trans ((below_alloc W2 _).mono (by omega))).grown hg4 (by simp; omega) (fun k e => by cases e; exact Nat.le_refl _)
end Go.Proofs.Ytcmkllfocifnlaa
