/- Contracts of package chips and of slices: Min, Effective, Support, Parts, Some. -/
import Derived.Test.YtcmkllfocifnlaaChipE
namespace Go.Proofs.Ytcmkllfocifnlaa
open Go.RowKit

def minL (zs : List Int) : Int := zs.tail.foldl min (zs.headD 0)
theorem foldl_min_le (l : List Int) (a : Int) : l.foldl min a ≤ a ∧ ∀ z ∈ l, l.foldl min a ≤ z := by
  induction l generalizing a with
  | nil => simp
  | cons x r ih =>
    have := ih (min a x)
    simp only [List.foldl_cons, List.mem_cons]
    refine ⟨by omega, fun z hz => ?_⟩
    rcases hz with rfl | hz
    · omega
    · exact this.2 z hz
theorem foldl_min_mem (l : List Int) (a : Int) : l.foldl min a = a ∨ l.foldl min a ∈ l := by
  induction l generalizing a with
  | nil => simp
  | cons x r ih =>
    simp only [List.foldl_cons, List.mem_cons]
    rcases ih (min a x) with h | h
    · rw [h]
      by_cases hx : a ≤ x
      · left; omega
      · right; left; omega
    · exact .inr (.inr h)
theorem minL_ge (zs : List Int) (h : 1 ≤ zs.length) (b : Int) : b ≤ minL zs ↔ ∀ z ∈ zs, b ≤ z := by
  match zs, h with
  | x :: r, _ =>
    simp only [minL, List.tail_cons, List.headD_cons, List.mem_cons]
    have h1 := foldl_min_le r x
    constructor
    · intro hb z hz
      rcases hz with rfl | hz
      · exact Int.le_trans hb h1.1
      · exact Int.le_trans hb (h1.2 z hz)
    · intro hb
      rcases foldl_min_mem r x with h | h
      · rw [h]; exact hb x (.inl rfl)
      · exact hb _ (.inr h)
theorem take_tail_succ {zs : List Int} {k : Nat} {z : Int} (hk1 : 1 ≤ k) (hz : zs[k]? = some z) : (zs.take (k + 1)).tail = (zs.take k).tail ++ [z] := by
  obtain ⟨hk, rfl⟩ := List.getElem?_eq_some_iff.1 hz
  rw [List.take_succ_eq_append_getElem hk, List.tail_append_of_ne_nil]
  intro e
  have := congrArg List.length e
  rw [List.length_take, List.length_nil] at this
  omega

set_option maxHeartbeats 400000 in
theorem Min_any (va : Value) (xs : List Int) (w : World) (ha : RI w va xs) (hl : 1 ≤ xs.length) :
    Calls Try.prog 68 #[va] w fun e w' => e = .returned (.int .i64 (minL xs)) ∧ w = w' := by
  obtain ⟨A, c, rfl, hlc, hc, hcell⟩ := ha.open_
  obtain ⟨ad, z0, rfl, _, hz0, hcl0⟩ := hcell 0 hl
  have hcl1 : w.cell? ad = some (.int .i64 z0) := hcl0
  have HA := Lib.hid hcell
  clear hcell ha hcl0
  go_enter Try.func68, Try.ntmps68
  go_wp2
  go_loop [3, 4] (fun m i => ∃ k : Nat, 1 ≤ k ∧ k ≤ xs.length ∧ i = .int .i64 k ∧ ∃ t : Int, m = .int .i64 t ∧ Hid (t = (xs.take k).tail.foldl min (xs.headD 0))) (fun _ i => xs.length - (intOf i).toNat)
  case atStart => exact ⟨1, Nat.le_refl _, hl, rfl, z0, rfl, by have := hz0.out; cases xs <;> simp_all [Hid]⟩
  case round =>
    obtain ⟨k, hk1, hk, rfl, t, rfl, ht⟩ := hrel
    by_cases hlt : k < xs.length
    · obtain ⟨ad', z, hA, hadb, hz, hcl⟩ := HA.out k hlt
      obtain rfl := Option.some.inj hA
      have HS := Lib.hid (take_tail_succ hk1 hz.out)
      clear HA hA
      go_wp2
      all_goals
        go_round
        case rel => exact ⟨k + 1, by omega, by omega, by go_num, _, rfl, by show _ = _; rw [HS.out, List.foldl_append, ← ht.out]; simp only [List.foldl_cons, List.foldl_nil]; omega⟩
        case measure => simp [intOf]; omega
    · go_wp2
      go_ret
      refine ⟨ret_i ?_, rfl⟩
      rw [ht.out, List.take_of_length_le (by omega)]; rfl

def effL (zs : List Int) : Bool × Int := if checkE zs zs.length ≠ 0 then (false, checkE zs zs.length) else (zs.all (fun z => decide (0 ≤ z)), 0)
theorem effL_min (zs : List Int) (h : 1 ≤ zs.length) : decide (0 ≤ minL zs) = zs.all (fun z => decide (0 ≤ z)) := by
  rw [Bool.eq_iff_iff, decide_eq_true_iff, minL_ge zs h, List.all_eq_true]
  simp

set_option maxHeartbeats 400000 in
theorem Effective_any (va : Value) (xs : List Int) (w : World) (ha : RI w va xs) :
    Calls Try.prog 33 #[va] w fun e w' => e = .returned (.tuple #[.bool (effL xs).1, .int .i64 (effL xs).2]) ∧ Below w.heap.size w w' := by
  have hrr := Lib.hid (RR.lit1 23 ha)
  have ha1 := Lib.hid (ha.below (below_alloc w (.cells #[va] 23)))
  obtain ⟨A, c, rfl, hlc, hc, -⟩ := ha.open_
  clear ha
  by_cases h0 : checkE xs xs.length = 0
  · obtain ⟨l1, l2, l3⟩ := checkE_zero h0
    have H0 := Lib.hid (ownE_one xs)
    have H1 := Lib.hid h0
    have H2 := Lib.hid (effL_min xs l1)
    clear l3 h0
    go_enter Try.func33, Try.ntmps33
    go_wp2_with (first
      | (go_at_call 56; refine (own_any _ [xs] _ hrr.out).mono ?_; rw [H0.out, H1.out]; rintro e w' ⟨rfl, rfl⟩)
      | (go_at_call 68; refine (Min_any _ xs _ ha1.out l1).mono ?_; rintro e w' ⟨rfl, rfl⟩))
    go_ret2
    refine ⟨?_, below_alloc w _⟩
    simp only [effL, H1.out, ne_eq, not_true_eq_false, if_false, ← H2.out]
    rfl
  · have h0' : (checkE xs xs.length != 0) = true := by simp [h0]
    have H0 := Lib.hid (ownE_one xs)
    have H1 := Lib.hid h0
    clear h0
    go_enter Try.func33, Try.ntmps33
    go_wp2_with (go_at_call 56; refine (own_any _ [xs] _ hrr.out).mono ?_; rw [H0.out]; rintro e w' ⟨rfl, rfl⟩)
    go_ret2
    exact ⟨by simp [effL, H1.out], below_alloc w _⟩

def partsL (xs : List Int) : (List Int × List Int) × Int :=
  if checkE xs xs.length ≠ 0 then (([], []), checkE xs xs.length) else ((xs.map (fun x => max x 0), xs.map (fun x => max (-x) 0)), 0)
theorem zipWith_fst (F : Int → Int) (xs : List Int) : List.zipWith (fun x (_ : Int) => F x) xs xs = xs.map F := by
  induction xs with
  | nil => rfl
  | cons x r ih => simp
theorem eachL_same (F : Int → Int) (xs : List Int) (hF : ∀ x ∈ xs, InB x = true → InB (F x) = true) :
    eachL (fun x _ => F x) xs xs = if checkE xs xs.length ≠ 0 then ([], checkE xs xs.length) else (xs.map F, 0) := by
  have h2 : ownE [xs, xs] = checkE xs xs.length := by by_cases h : checkE xs xs.length = 0 <;> simp [ownE, ownE1, h]
  unfold eachL
  rw [h2]
  by_cases h : checkE xs xs.length = 0
  · obtain ⟨_, _, h3⟩ := checkE_zero h
    have : (List.zipWith (fun x (_ : Int) => F x) xs xs).all InB = true := by
      rw [zipWith_fst, List.all_map, List.all_eq_true]
      intro x hx
      exact hF x hx (List.all_eq_true.1 h3 x hx)
    simp only [h, this, ne_eq, not_true_eq_false, if_false, if_true]
    rw [zipWith_fst]
  · simp [h]
theorem max_inB {x : Int} (h : InB x = true) : InB (max x 0) = true ∧ InB (max (-x) 0) = true := by
  rw [inB_iff] at h; constructor <;> rw [inB_iff] <;> omega

set_option maxHeartbeats 400000 in
theorem Parts_any (va : Value) (xs : List Int) (w : World) (ha : RI w va xs) :
    Calls Try.prog 37 #[va] w fun e w' => ∃ v u, e = .returned (.tuple #[v, u, .int .i64 (partsL xs).2]) ∧ OI w' w.heap.size v (partsL xs).1.1 ∧ OI w' w.heap.size u (partsL xs).1.2 ∧ Below w.heap.size w w' := by
  have hup := Lib.hid (each_any va va _ xs xs _ w ha ha (up_clo w))
  have e1 := eachL_same (fun x => max x 0) xs (fun x _ h => (max_inB h).1)
  have e2 := eachL_same (fun x => max (-x) 0) xs (fun x _ h => (max_inB h).2)
  have HA := Lib.hid ha
  by_cases h0 : checkE xs xs.length = 0
  · simp only [h0, ne_eq, not_true_eq_false, if_false] at e1 e2
    have E1 := Lib.hid e1
    have E2 := Lib.hid e2
    have H0 := Lib.hid h0
    clear e1 e2 h0 ha
    go_enter Try.func37, Try.ntmps37
    go_wp2_with fail
    refine hup.out.mono ?_
    rw [E1.out]
    rintro e w1 ⟨v, rfl, ho1, hb1⟩
    have H1 := Lib.hid ho1
    clear ho1
    go_wp2_with fail
    refine (each_any va va _ xs xs _ w1 (HA.out.below hb1) (HA.out.below hb1) (down_clo w1)).mono ?_
    rw [E2.out]
    rintro e w2 ⟨u, rfl, ho2, hb2⟩
    have H2 := Lib.hid ho2
    clear ho2
    go_wp2
    go_ret3
    refine ⟨v, u, ?_, ?_, ?_, hb1.trans (hb2.mono hb1.size)⟩
    · simp only [partsL, H0.out, ne_eq, not_true_eq_false, if_false]; rfl
    · simp only [partsL, H0.out, ne_eq, not_true_eq_false, if_false]
      exact OI.below H1.out hb2
    · simp only [partsL, H0.out, ne_eq, not_true_eq_false, if_false]
      exact OV.mono H2.out hb1.size
  · simp only [h0, ne_eq, not_false_eq_true, if_true] at e1 e2
    have E1 := Lib.hid e1
    have h0' : (checkE xs xs.length != 0) = true := by simp [h0]
    have H0 := Lib.hid h0
    clear e1 e2 h0 ha
    go_enter Try.func37, Try.ntmps37
    go_wp2_with fail
    refine hup.out.mono ?_
    rw [E1.out]
    rintro e w1 ⟨v, rfl, ho1, hb1⟩
    clear ho1
    go_wp2
    go_ret3
    refine ⟨.slice none 0 0, .slice none 0 0, ?_, ?_, ?_, hb1⟩
    · simp only [partsL, H0.out, ne_eq, not_false_eq_true, if_true]; rfl
    · simp only [partsL, H0.out, ne_eq, not_false_eq_true, if_true]; exact OI.nil_ _ _
    · simp only [partsL, H0.out, ne_eq, not_false_eq_true, if_true]; exact OI.nil_ _ _
end Go.Proofs.Ytcmkllfocifnlaa
