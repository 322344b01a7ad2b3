/- Contracts of chips: Support, Some, step. -/
import Derived.Test.YtcmkllfocifnlaaChipH
namespace Go.Proofs.Ytcmkllfocifnlaa
open Go.RowKit

def supp : Nat → List Int → List Int
  | _, [] => []
  | i, z :: r => if z = 0 then supp (i + 1) r else (i : Int) :: supp (i + 1) r
theorem supp_len (i : Nat) (zs : List Int) : (supp i zs).length ≤ zs.length := by
  induction zs generalizing i with
  | nil => simp [supp]
  | cons z r ih => have := ih (i + 1); simp only [supp]; split <;> simp only [List.length_cons] <;> omega
def supL (zs : List Int) : List Int × Int := if checkE zs zs.length ≠ 0 then ([], checkE zs zs.length) else (supp 0 zs, 0)

theorem RV.one (w : World) (u : Value) (e : TypeId) : RV (w.alloc (.cells #[u] e)) (.slice (some ⟨w.heap.size, 0, none⟩) 1 1) [u] := RV.lit w #[u] e 1 rfl (by omega)
theorem one_one {u : Value} (h : u.oneCell' = true) : ∀ x ∈ [u], x.oneCell' = true := by simp [h]

set_option maxRecDepth 100000 in
set_option maxHeartbeats 1000000 in
theorem Support_any (va : Value) (xs : List Int) (w : World) (ha : RI w va xs) :
    Calls Try.prog 35 #[va] w (Pair w (supL xs)) := by
  have hrr := Lib.hid (RR.lit1 23 ha)
  obtain ⟨A, c, rfl, hlc, hc, hcell⟩ := ha.open_
  obtain ⟨i0, hi, hz0, hz1, hz2⟩ := info_parts int_info
  have HA := Lib.hid hcell
  have hb0 := below_alloc w (.cells #[Value.slice A xs.length c] 23)
  clear hcell ha
  by_cases h0 : checkE xs xs.length = 0
  · obtain ⟨l1, l2, l3⟩ := checkE_zero h0
    have L3 := Lib.hid l3
    have H0 := Lib.hid (ownE_one xs)
    have H1 := Lib.hid h0
    clear l3 h0
    go_enter Try.func35, Try.ntmps35
    go_wp2_with (go_at_call 56; refine (own_any _ [xs] _ hrr.out).mono ?_; rw [H0.out, H1.out]; rintro e w' ⟨rfl, rfl⟩)
    go_loopw [5, 16] (fun v i wr => ∃ (k : Nat) (os : List Int), k ≤ xs.length ∧ i = .int .i64 k ∧ os.length ≤ k ∧ Hid (os ++ supp k (xs.drop k) = supp 0 xs) ∧ Hid (OI wr w.heap.size v os) ∧ Below w.heap.size w wr) (fun _ i _ => xs.length - (intOf i).toNat)
    case atStart => exact ⟨0, [], Nat.zero_le _, rfl, by simp, rfl, OI.nil_ _ _, hb0⟩
    case round =>
      obtain ⟨k, os, hk, rfl, hol, hs, hown, hbel⟩ := hrel
      by_cases hlt : k < xs.length
      · obtain ⟨ad, z, rfl, hadb, hz, hcl⟩ := HA.out k hlt
        have hc1 : wr.cell? (ad.add k) = some (.int .i64 z) := (hbel.cell (by rw [block_of_add]; exact hadb)).trans hcl
        have HD := Lib.hid (drop_at hz)
        clear HA hcl
        have hsz := hbel.size
        by_cases hz0' : z = 0
        · have hz' : (z != 0) = false := by simp [hz0']
          have HZ := Lib.hid hz0'
          clear hz0'
          go_wp2
          go_roundw
          case rel => exact ⟨k + 1, os, by omega, by go_num, by omega, by show _ = _; rw [← hs.out, HD.out, HZ.out]; simp [supp], hown, hbel⟩
          case measure => simp [intOf]; omega
        · have hz' : (z != 0) = true := by simp [hz0']
          have HZ := Lib.hid hz0'
          have h1 := Lib.hid (RV.one wr (.int .i64 k) 3)
          have ho := Lib.hid (hown.out.below (below_alloc wr (.cells #[.int .i64 k] 3)))
          clear hz0'
          go_wp2_with (at_builtin; refine wpList_appendV _ rfl _ _ _ rfl 3 i0 _ 8 Try.underlying22 hi hz0 hz1 hz2 rfl w.heap.size _ _ rfl ho.out _ _ rfl h1.out (one_one rfl) (by simp; omega) (by simp; omega) (by simp; omega) ?_; intro v1 w1 hown1 hg1 hat1)
          have HO := Lib.hid hown1
          clear hown1
          go_wp2
          go_roundw
          case rel => exact ⟨k + 1, os ++ [(k : Int)], by omega, by go_num, by simp; omega, by show _ = _; rw [← hs.out, HD.out]; simp [supp, HZ.out], by show OI _ _ _ _; simpa [OI] using HO.out, below_own (hbel.trans ((below_alloc wr _).mono hbel.size)) (by simp; omega) ho.out hg1⟩
          case measure => simp [intOf]; omega
      · go_wp2_with fail
        have := hs.out
        rw [List.drop_of_length_le (by omega)] at this
        simp only [supp, List.append_nil] at this
        have e1 : supL xs = (os, 0) := by simp only [supL, H1.out, ne_eq, not_true_eq_false, if_false, this]
        rw [e1]
        exact bodyPost_ret (results_tmp2 rfl _ _ _) rfl ⟨_, rfl, hown.out, hbel⟩
  · have h0' : (checkE xs xs.length != 0) = true := by simp [h0]
    have H0 := Lib.hid (ownE_one xs)
    have H1 := Lib.hid h0
    clear h0
    go_enter Try.func35, Try.ntmps35
    go_wp2_with (go_at_call 56; refine (own_any _ [xs] _ hrr.out).mono ?_; rw [H0.out]; rintro e w' ⟨rfl, rfl⟩)
    refine bodyPost_ret (results_tmp2 rfl _ _ _) rfl ⟨.slice none 0 0, ?_, ?_, hb0⟩
    · simp [supL, H1.out]
    · simp only [supL, H1.out, ne_eq, not_false_eq_true, if_true]; exact OI.nil_ _ _

set_option maxHeartbeats 1000000 in
theorem Some_any (n v k : Int) (w : World) : Calls Try.prog 45 #[.int .i64 n, .int .i64 v, .int .i64 k] w (Pair w (someL n v k)) := by
  have hz := Lib.hid (Zero_any n w)
  by_cases h1 : n < 1 ∨ 12 < n
  · have e1 : vertE n = 2 := by simp [vertE, h1]
    have E1 : Hid (zeroL n = ([], 2)) := by show _ = _; simp [zeroL, e1]
    have E2 : Hid (someL n v k = ([], 2)) := by show _ = _; simp [someL, e1]
    clear e1 h1
    rw [E1.out] at hz
    go_enter Try.func45, Try.ntmps45
    go_wp2_with fail
    refine hz.out.mono ?_
    rintro e w1 ⟨u, rfl, ho, hb1⟩
    clear ho
    go_wp2
    rw [E2.out]
    exact bodyPost_ret (results_tmp2 rfl _ _ _) rfl ⟨.slice none 0 0, rfl, OI.nil_ _ _, hb1⟩
  · have e1 : vertE n = 0 := by simp [vertE, h1]
    obtain ⟨m, rfl⟩ := Int.eq_ofNat_of_zero_le (show 0 ≤ n by omega)
    have hm : m ≤ 12 := by omega
    have E1 : Hid (zeroL m = (List.replicate m 0, 0)) := by show _ = _; simp [zeroL, e1]
    have E3 := Lib.hid e1
    clear e1 h1
    rw [E1.out] at hz
    by_cases hv : v < 0 ∨ (m : Int) ≤ v ∨ InB k = false
    · have E2 : Hid (someL m v k = ([], 2)) := by show _ = _; simp only [someL, E3.out, ne_eq, not_true_eq_false, if_false, hv, if_true]
      have fin : ∀ w1, Below w.heap.size w w1 → Pair w (someL m v k) (.returned (.tuple #[.slice none 0 0, .int .i64 2])) w1 := by
        intro w1 hb1; rw [E2.out]; exact ⟨.slice none 0 0, rfl, OI.nil_ _ _, hb1⟩
      have FIN := Lib.hid fin
      clear fin
      by_cases a : v < 0
      · clear hv
        go_enter Try.func45, Try.ntmps45
        go_wp2_with fail
        refine hz.out.mono ?_
        rintro e w1 ⟨u, rfl, ho, hb1⟩
        clear ho
        go_wp2
        go_ret2; exact FIN.out w1 hb1
      · by_cases b : (m : Int) ≤ v
        · clear hv
          go_enter Try.func45, Try.ntmps45
          go_wp2_with fail
          refine hz.out.mono ?_
          rintro e w1 ⟨u, rfl, ho, hb1⟩
          clear ho
          go_wp2
          go_ret2; exact FIN.out w1 hb1
        · have hk : InB k = false := by simpa [a, b] using hv
          clear hv
          go_enter Try.func45, Try.ntmps45
          go_wp2_with fail
          refine hz.out.mono ?_
          rintro e w1 ⟨u, rfl, ho, hb1⟩
          clear ho
          go_wp2_with (go_at_call 78; refine (within_any _ _).mono ?_; rintro e w' ⟨rfl, rfl⟩)
          go_ret2; exact FIN.out _ hb1
    · have a : ¬ v < 0 := fun h => hv (.inl h)
      have b : ¬ (m : Int) ≤ v := fun h => hv (.inr (.inl h))
      have hk : InB k = true := by cases h : InB k <;> simp_all
      obtain ⟨j, rfl⟩ := Int.eq_ofNat_of_zero_le (show 0 ≤ v by omega)
      have hj : j < m := by omega
      have E2 : Hid (someL m j k = ((List.replicate m 0).set j k, 0)) := by show _ = _; simp only [someL, E3.out, ne_eq, not_true_eq_false, if_false, hv]; rfl
      clear hv a b
      go_enter Try.func45, Try.ntmps45
      go_wp2_with fail
      refine hz.out.mono ?_
      rintro e w1 ⟨u, rfl, ho, hb1⟩
      obtain ⟨g, cap, rfl, hg, hc, hf, hst⟩ := OI.at_ ho (k := j) (by simpa using hj)
      simp only [List.length_replicate] at hst
      have HS := Lib.hid hst
      simp only [List.length_replicate]
      have HO := Lib.hid ho
      clear ho hst
      go_wp2_with (go_at_call 78; refine (within_any _ _).mono ?_; rintro e w' ⟨rfl, rfl⟩)
      rw [E2.out]
      go_ret2; exact ⟨_, rfl, (HS.out k).1, hb1.setCell (p := ⟨g, j, none⟩) hg _⟩
end Go.Proofs.Ytcmkllfocifnlaa
