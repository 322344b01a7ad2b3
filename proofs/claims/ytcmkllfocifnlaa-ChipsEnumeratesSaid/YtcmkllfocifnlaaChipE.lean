/- Contracts of package chips and of slices: what reads divisors. -/
import Derived.Test.YtcmkllfocifnlaaChipD
import Derived.Maps.AppendAt
namespace Go.Proofs.Ytcmkllfocifnlaa
open Go.RowKit

theorem ownE_one (zs : List Int) : ownE [zs] = checkE zs zs.length := by
  by_cases h : checkE zs zs.length = 0 <;> simp [ownE, ownE1, h]
theorem checkE_zero {zs : List Int} (h : checkE zs zs.length = 0) : 1 ≤ zs.length ∧ zs.length ≤ 12 ∧ zs.all InB = true := by
  have := own2_zero (xs := zs) (ys := zs) (by simp [ownE, ownE1, h])
  exact ⟨this.2.1, this.2.2.1, this.2.2.2.1⟩
theorem all_at {p : Int → Bool} {zs : List Int} (h : zs.all p = true) {k : Nat} {z : Int} (hz : zs[k]? = some z) : p z = true :=
  List.all_eq_true.1 h z (List.mem_of_getElem? hz)
theorem inB_at {zs : List Int} (h : zs.all InB = true) {k : Nat} {z : Int} (hz : zs[k]? = some z) : -1048576 ≤ z ∧ z ≤ 1048576 := (inB_iff z).1 (all_at h hz)
theorem sum_take_succ {zs : List Int} {k : Nat} {z : Int} (hz : zs[k]? = some z) : (zs.take (k + 1)).sum = (zs.take k).sum + z := by
  obtain ⟨hk, rfl⟩ := List.getElem?_eq_some_iff.1 hz
  rw [List.take_succ_eq_append_getElem hk, List.sum_append]; simp
theorem sum_bd (zs : List Int) (h : zs.all InB = true) : -1048576 * (zs.length : Int) ≤ zs.sum ∧ zs.sum ≤ 1048576 * (zs.length : Int) := by
  induction zs with
  | nil => simp
  | cons z r ih =>
    simp only [List.all_cons, Bool.and_eq_true, inB_iff] at h
    have := ih h.2
    simp only [List.sum_cons, List.length_cons]
    omega
theorem all_take {p : Int → Bool} {zs : List Int} (h : zs.all p = true) (k : Nat) : (zs.take k).all p = true :=
  List.all_eq_true.2 fun x hx => List.all_eq_true.1 h x (List.mem_of_mem_take hx)

def zeroL (n : Int) : List Int × Int := if vertE n ≠ 0 then ([], vertE n) else (List.replicate n.toNat 0, 0)
set_option maxHeartbeats 400000 in
theorem Zero_any (n : Int) (w : World) : Calls Try.prog 43 #[.int .i64 n] w (Pair w (zeroL n)) := by
  obtain ⟨i0, hi, hz0, hz1, hz2⟩ := info_parts int_info
  by_cases h1 : n < 1 ∨ 12 < n
  · have e1 : (vertE n != 0) = true := by simp [vertE, h1]
    have H1 := Lib.hid e1
    go_enter Try.func43, Try.ntmps43
    go_wp2_with (go_at_call 63; refine (vertices_any _ _).mono ?_; rintro e w' ⟨rfl, rfl⟩)
    refine bodyPost_ret (results_tmp2 rfl _ _ _) rfl ⟨.slice none 0 0, ?_, ?_, Below.refl _ _⟩
    · simp only [zeroL, bne_iff_ne.1 H1.out, ne_eq, not_false_eq_true, if_true]; rfl
    · simp only [zeroL, bne_iff_ne.1 H1.out, ne_eq, not_false_eq_true, if_true]; exact OI.nil_ _ _
  · have e1 : vertE n = 0 := by simp [vertE, h1]
    obtain ⟨m, rfl⟩ := Int.eq_ofNat_of_zero_le (show 0 ≤ n by omega)
    have hm : m ≤ 12 := by omega
    have H1 := Lib.hid e1
    clear h1
    go_enter Try.func43, Try.ntmps43
    go_wp2_with (first
      | (go_at_call 63; refine (vertices_any _ _).mono ?_; rintro e w' ⟨rfl, rfl⟩)
      | (at_make
         refine wpList_make_full _ rfl _ _ _ rfl w.heap.size 3 i0 _ 1 Try.underlying23 hi hz0 hz1 .i64 .i64 _ _ m rfl rfl rfl rfl (by rw [hz2]; omega) (by unfold maxLen; omega) (by simp) ?_
         intro w1 hown1 hg1))
    refine bodyPost_ret (results_tmp2 rfl _ _ _) rfl ⟨.slice (some ⟨w.heap.size, 0, none⟩) m m, ?_, ?_, below_grown hg1 (Below.refl _ _)⟩
    · simp only [zeroL, H1.out, ne_eq, not_true_eq_false, if_false]; rfl
    · simp only [zeroL, H1.out, ne_eq, not_true_eq_false, if_false]
      simp only [Nat.mul_one, Value.cells, toList_madeCells_one] at hown1
      refine ⟨by simpa using hown1, by simp; omega⟩

def someL (n v k : Int) : List Int × Int :=
  if vertE n ≠ 0 then ([], vertE n) else if v < 0 ∨ n ≤ v ∨ InB k = false then ([], 2) else ((List.replicate n.toNat 0).set v.toNat k, 0)
def degL (zs : List Int) : Int × Int := if checkE zs zs.length ≠ 0 then (0, checkE zs zs.length) else (zs.sum, 0)

set_option maxHeartbeats 400000 in
theorem Degree_any (va : Value) (xs : List Int) (w : World) (ha : RI w va xs) :
    Calls Try.prog 31 #[va] w fun e w' => e = .returned (.tuple #[.int .i64 (degL xs).1, .int .i64 (degL xs).2]) ∧ Below w.heap.size w w' := by
  have hrr := Lib.hid (RR.lit1 23 ha)
  obtain ⟨A, c, rfl, hlc, hc, hcell⟩ := ha.open_
  have HA := Lib.hid hcell
  clear hcell ha
  by_cases h0 : checkE xs xs.length = 0
  · obtain ⟨l1, l2, l3⟩ := checkE_zero h0
    have L3 := Lib.hid l3
    have H0 := Lib.hid (ownE_one xs)
    have H1 := Lib.hid h0
    clear l3 h0
    go_enter Try.func31, Try.ntmps31
    go_wp2_with (go_at_call 56; refine (own_any _ [xs] _ hrr.out).mono ?_; rw [H0.out, H1.out]; rintro e w' ⟨rfl, rfl⟩)
    go_loop [5, 16] (fun t i => ∃ k : Nat, k ≤ xs.length ∧ i = .int .i64 k ∧ t = .int .i64 (xs.take k).sum) (fun _ i => xs.length - (intOf i).toNat)
    case atStart => exact ⟨0, Nat.zero_le _, rfl, by simp⟩
    case round =>
      obtain ⟨k, hk, rfl, rfl⟩ := hrel
      have hsb := sum_bd (xs.take k) (all_take L3.out k)
      rw [List.length_take] at hsb
      have hsb1 : -13631488 ≤ (xs.take k).sum := by omega
      have hsb2 : (xs.take k).sum ≤ 13631488 := by omega
      clear hsb
      by_cases hlt : k < xs.length
      · obtain ⟨ad, z, rfl, hadb, hz, hcl⟩ := HA.out k hlt
        have hc1 : (w.alloc (.cells #[.slice (some ad) xs.length c] 23)).cell? (ad.add k) = some (.int .i64 z) := (World.cell?_alloc_lt w _ _ (by rw [block_of_add]; exact hadb)).trans hcl
        obtain ⟨hz1, hz2⟩ := inB_at L3.out hz.out
        have HS := Lib.hid (sum_take_succ hz.out)
        clear HA
        go_wp2
        go_round
        case rel => exact ⟨k + 1, by omega, by go_num, by rw [HS.out]⟩
        case measure => simp [intOf]; omega
      · go_wp2
        go_ret2
        refine ⟨?_, below_alloc w _⟩
        simp only [degL, H1.out, ne_eq, not_true_eq_false, if_false]
        rw [List.take_of_length_le (by omega)]
        rfl
  · have h0' : (checkE xs xs.length != 0) = true := by simp [h0]
    have H0 := Lib.hid (ownE_one xs)
    have H1 := Lib.hid h0
    clear h0
    go_enter Try.func31, Try.ntmps31
    go_wp2_with (go_at_call 56; refine (own_any _ [xs] _ hrr.out).mono ?_; rw [H0.out]; rintro e w' ⟨rfl, rfl⟩)
    go_ret2
    exact ⟨by simp [degL, H1.out], below_alloc w _⟩
end Go.Proofs.Ytcmkllfocifnlaa
