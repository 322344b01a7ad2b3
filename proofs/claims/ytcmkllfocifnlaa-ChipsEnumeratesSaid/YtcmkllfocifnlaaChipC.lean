/- Contracts of package chips: each. -/
import Derived.Test.YtcmkllfocifnlaaChipB
namespace Go.Proofs.Ytcmkllfocifnlaa
open Go.RowKit

def eachL (F : Int → Int → Int) (xs ys : List Int) : List Int × Int :=
  if ownE [xs, ys] ≠ 0 then ([], ownE [xs, ys]) else if (List.zipWith F xs ys).all InB then (List.zipWith F xs ys, 0) else ([], 11)

theorem own2_zero {xs ys : List Int} (h : ownE [xs, ys] = 0) : xs.length = ys.length ∧ 1 ≤ xs.length ∧ xs.length ≤ 12 ∧ xs.all InB = true ∧ ys.all InB = true := by
  unfold ownE at h
  have h1 : ownE1 [xs, ys] = 0 := by
    by_cases e : ownE1 [xs, ys] = 0
    · exact e
    · simp [e] at h
  simp only [h1, ne_eq, not_true_eq_false, if_false] at h
  simp only [ownE1] at h1
  have hc : ∀ zs : List Int, checkE zs zs.length = 0 → 1 ≤ zs.length ∧ zs.length ≤ 12 ∧ zs.all InB = true := by
    intro zs hz
    unfold checkE at hz
    by_cases a : ((zs.length : Int) < 1 ∨ 12 < (zs.length : Int))
    · simp [a] at hz
    · simp only [a, if_false, ne_eq, not_true_eq_false] at hz
      by_cases b : zs.all InB = true
      · exact ⟨by omega, by omega, b⟩
      · simp [b] at hz
  have e1 : checkE xs xs.length = 0 := by
    by_cases e : checkE xs xs.length = 0
    · exact e
    · simp [e] at h1
  have e2 : checkE ys ys.length = 0 := by
    by_cases e : checkE ys ys.length = 0
    · exact e
    · simp [e1, e] at h1
  obtain ⟨a1, a2, a3⟩ := hc xs e1
  obtain ⟨b1, b2, b3⟩ := hc ys e2
  refine ⟨?_, a1, a2, a3, b3⟩
  by_cases e : ys.length = xs.length
  · exact e.symm
  · simp [e] at h

theorem take_set_succ {α : Type} (l m : List α) (k : Nat) (x : α) (hk : k < l.length) (hm : m[k]? = some x) (h : l.take k = m.take k) : (l.set k x).take (k + 1) = m.take (k + 1) := by
  apply List.ext_getElem?
  intro i
  have h' := congrArg (fun t : List α => t[i]?) h
  simp only [List.getElem?_take, List.getElem?_set] at h' ⊢
  by_cases e : i = k
  · subst e; simp [hk, hm]
  · by_cases e2 : i < k
    · have : i < k + 1 := by omega
      simp only [e2, if_true] at h'
      simp [this, show ¬ k = i from fun e' => e e'.symm, h']
    · have : ¬ i < k + 1 := by omega
      simp [this]
theorem all_take_succ {p : Int → Bool} (m : List Int) (k : Nat) (x : Int) (hm : m[k]? = some x) : (m.take (k + 1)).all p = ((m.take k).all p && p x) := by
  have hk := (List.getElem?_eq_some_iff.1 hm)
  obtain ⟨hk, rfl⟩ := hk
  rw [List.take_succ_eq_append_getElem hk, List.all_append, List.all_cons, List.all_nil, Bool.and_true]

set_option maxRecDepth 100000 in
set_option maxHeartbeats 1000000 in
theorem each_any (va vb fv : Value) (xs ys : List Int) (F : Int → Int → Int) (w : World) (ha : RI w va xs) (hb : RI w vb ys) (hf : Clo2 Try.prog w fv F) :
    Calls Try.prog 60 #[va, vb, fv] w fun e w' => ∃ v, e = .returned (.tuple #[v, .int .i64 (eachL F xs ys).2]) ∧ OI w' w.heap.size v (eachL F xs ys).1 ∧ Below w.heap.size w w' := by
  obtain ⟨A, c, rfl, hlc, hc, hcell⟩ := ha.open_
  obtain ⟨A', c', rfl, hlc', hc', hcell'⟩ := hb.open_
  obtain ⟨fn, caps, rfl, hen, hcall⟩ := hf
  obtain ⟨i0, hi, hz0, hz1, hz2⟩ := info_parts int_info
  have hrr := Lib.hid (RR.lit2 23 ha hb)
  have HA := Lib.hid hcell
  have HB := Lib.hid hcell'
  have HF := Lib.hid hcall
  clear hcell hcell' hcall ha hb
  by_cases h0 : ownE [xs, ys] = 0
  · obtain ⟨l1, l2, l3, l4, l5⟩ := own2_zero h0
    have L1 := Lib.hid l1
    have L4 := Lib.hid l4
    have L5 := Lib.hid l5
    have H0 := Lib.hid h0
    clear h0 l1 l4 l5
    go_enter Try.func60, Try.ntmps60
    go_wp2_with (first
      | (go_at_call 56; refine (own_any _ [xs, ys] _ hrr.out).mono ?_; rw [H0.out]; rintro e w' ⟨rfl, rfl⟩)
      | (at_make
         refine wpList_make_full _ rfl _ _ _ rfl (w.heap.size + 1) 3 i0 _ 1 Try.underlying23 hi hz0 hz1 .i64 .i64 _ _ xs.length rfl rfl rfl rfl (by rw [hz2]; omega) (by unfold maxLen; omega) (by simp) ?_
         intro w1 hown1 hg1))
    have hb1 : Below w.heap.size w w1 := below_grown hg1 (below_alloc w _)
    have hown1 : w1.ownsRow (w.heap.size + 1) 3 1 (.slice (some ⟨w.heap.size + 1, 0, none⟩) xs.length xs.length) xs.length ((List.replicate xs.length 0).map (Value.int .i64)) := by
      have := hown1
      simp only [World.size_alloc, Nat.mul_one, Value.cells, toList_madeCells_one] at this
      simpa using this
    clear hg1
    go_loopw [23] (fun i wr => ∃ (k : Nat) (os : List Int), k ≤ xs.length ∧ i = .int .i64 k ∧ Hid (os.length = xs.length) ∧ Hid (os.take k = (List.zipWith F xs ys).take k) ∧ Hid (((List.zipWith F xs ys).take k).all InB = true) ∧
      wr.ownsRow (w.heap.size + 1) 3 1 (.slice (some ⟨w.heap.size + 1, 0, none⟩) xs.length xs.length) xs.length (os.map (Value.int .i64)) ∧ Below w.heap.size w wr) (fun i _ => xs.length - (intOf i).toNat)
    case atStart => exact ⟨0, List.replicate xs.length 0, Nat.zero_le _, rfl, by simp [Hid], by simp [Hid], by simp [Hid], hown1, hb1⟩
    case round =>
      obtain ⟨k, os, hk, rfl, ho1, ho2, ho3, hown, hbel⟩ := hrel
      by_cases hlt : k < xs.length
      · obtain ⟨ad, z, rfl, hadb, hz, hcl⟩ := HA.out k hlt
        obtain ⟨ad', z', rfl, hadb', hz', hcl'⟩ := HB.out k (by have := L1.out; omega)
        have hc1 : wr.cell? (ad.add k) = some (.int .i64 z) := (hbel.cell (by rw [block_of_add]; exact hadb)).trans hcl
        have hc2 : wr.cell? (ad'.add k) = some (.int .i64 z') := (hbel.cell (by rw [block_of_add]; exact hadb')).trans hcl'
        have hlt' : k < ys.length := by have := L1.out; omega
        have hzb : -1048576 ≤ z ∧ z ≤ 1048576 := (inB_iff z).1 (List.all_eq_true.1 L4.out z (List.mem_of_getElem? hz.out))
        have hzb' : -1048576 ≤ z' ∧ z' ≤ 1048576 := (inB_iff z').1 (List.all_eq_true.1 L5.out z' (List.mem_of_getElem? hz'.out))
        have hol : k < os.length := by have := ho1.out; omega
        have hc3 : wr.cell? ⟨w.heap.size + 1, k, none⟩ = some (.int .i64 (os[k])) := by
          rw [hown.cellAt k (by omega)]; simp
        have hf3 : wr.frozen? ⟨w.heap.size + 1, k, none⟩ = false := hown.frozenAt k
        have HO := Lib.hid hown
        clear hown
        go_wp2_with fail
        refine wp_region_still_tail 13 (by kernel_rfl) (by kernel_rfl) ?_
        change wpStill _ _ wr.drew _ _ _
        simp only [List.take_succ_cons, List.take_zero, List.drop_succ_cons, List.drop_zero]
        repeat still_step
        still_call ((HF.out wr.drew hbel.drew z z' hzb.1 hzb.2 hzb'.1 hzb'.2).mono fun _ _ h => ⟨h.1, h.2.symm⟩)
        trace "A"
        repeat still_step
        refine wpStill_nil ?_
        trace "B"
        change wpList _ _ _ _ _ wr.drew
        go_wp2_with (go_at_call 78; refine (within_any _ _).mono ?_; rintro e w' ⟨rfl, rfl⟩)
        · have hw : InB (F z z') = false := by have : (!InB (F z z')) = true := by assumption
                                               simpa using this
          refine bodyPost_ret (results_tmp2 rfl _ _ _) rfl ⟨.slice none 0 0, ?_, ?_, ?_⟩
          · have hz1 : (List.zipWith F xs ys)[k]? = some (F z z') := by rw [List.getElem?_zipWith, hz.out, hz'.out]
            have hall : (List.zipWith F xs ys).all InB = false := by
              rw [List.all_eq_false]; exact ⟨_, List.mem_of_getElem? hz1, by simp [hw]⟩
            simp [eachL, H0.out, hall]
          · have hz1 : (List.zipWith F xs ys)[k]? = some (F z z') := by rw [List.getElem?_zipWith, hz.out, hz'.out]
            have hall : (List.zipWith F xs ys).all InB = false := by
              rw [List.all_eq_false]; exact ⟨_, List.mem_of_getElem? hz1, by simp [hw]⟩
            simp only [eachL, H0.out, hall, ne_eq, not_true_eq_false, if_false, Bool.false_eq_true]
            exact OI.nil_ _ _
          · exact (hbel.setCell (p := ⟨w.heap.size + 1, k, none⟩) (by simp) _).drew
        · have hw : InB (F z z') = true := by have : (!InB (F z z')) = false := by assumption
                                              simpa using this
          have hz1 : (List.zipWith F xs ys)[k]? = some (F z z') := by rw [List.getElem?_zipWith, hz.out, hz'.out]
          have hst := HO.out.stored k (.int .i64 (F z z'))
          rw [← List.map_set] at hst
          refine ⟨⟨k + 1, os.set k (F z z'), by omega, by go_num, by simpa [Hid] using ho1.out, take_set_succ os _ k _ hol hz1 ho2.out, ?_, hst.1, (hbel.setCell (p := ⟨w.heap.size + 1, k, none⟩) (by simp) _).drew⟩, by simp [intOf]; omega⟩
          show _ = true
          rw [all_take_succ _ k _ hz1, ho3.out, hw]; rfl
      · have hkn : k = xs.length := by omega
        go_wp2
        refine bodyPost_ret (results_tmp2 rfl _ _ _) rfl ⟨.slice (some ⟨w.heap.size + 1, 0, none⟩) xs.length xs.length, ?_, ?_, ?_⟩
        · have hl : (List.zipWith F xs ys).length ≤ k := by simp; omega
          have h3 := ho3.out
          rw [List.take_of_length_le hl] at h3
          simp [eachL, H0.out, h3]
        · have hl : (List.zipWith F xs ys).length ≤ k := by simp; omega
          have h3 := ho3.out
          have h2 := ho2.out
          rw [List.take_of_length_le hl] at h3 h2
          rw [List.take_of_length_le (by have := ho1.out; omega)] at h2
          subst h2
          have e : (List.zipWith F xs ys).length = xs.length := ho1.out
          simp only [eachL, H0.out, h3, ne_eq, not_true_eq_false, if_false, if_true]
          exact ⟨by rw [List.length_map, e]; exact OV.mono_own hown (by omega), by simp only [List.length_map, e]; omega⟩
        · exact hbel
  · have h0' : (ownE [xs, ys] != 0) = true := by simp [h0]
    have H0 := Lib.hid h0
    clear h0
    go_enter Try.func60, Try.ntmps60
    go_wp2_with (go_at_call 56; refine (own_any _ [xs, ys] _ hrr.out).mono ?_; rintro e w' ⟨rfl, rfl⟩)
    refine bodyPost_ret (results_tmp2 rfl _ _ _) rfl ⟨.slice none 0 0, ?_, ?_, ?_⟩
    · simp [eachL, H0.out]
    · simp only [eachL, H0.out, ne_eq, not_false_eq_true, if_true]
      exact OI.nil_ _ _
    · exact below_alloc w _
end Go.Proofs.Ytcmkllfocifnlaa
