/- Sets as bits, and what the reference's out, May, Tight, Calm compute of them. No program in sight but the model's word for bits.
   Contracts of the references' out, May, Tight, Calm.
   Contracts of the references' Tight, Calm, Greatest.
   Contract of the reference's Calms: all superstable configurations. -/
import Derived.Test.YtefggpdobjboeaaGreatG32
import Derived.Test.YtefggpdobjboeaaGreatG18
namespace Go.Proofs.YtefggpdobjboeaaGreat

theorem bit_at {S : Nat} (hS : S < 4611686018427387904) (k : Nat) : bits .and .i64 ((S : Int) / 2 ^ k) 1 = if S.testBit k then 1 else 0 := by
  have h := bits_mask .i64 62 (by decide) (fun n h0 h1 => by rw [IntKind.wrap_i64]; omega) 1 (by decide) ((S / 2 ^ k : Nat) : Int) (Int.natCast_nonneg _) (by
    have : S / 2 ^ k ≤ S := Nat.div_le_self _ _
    have h2 : S / 2 ^ k < 2 ^ 62 := by omega
    exact_mod_cast h2)
  have e : ((S : Int) / 2 ^ k) = ((S / 2 ^ k : Nat) : Int) := by push_cast; rfl
  rw [e]
  rw [show ((2 : Int) ^ 1 - 1) = 1 by decide] at h
  rw [h, Nat.testBit_eq_decide_div_mod_eq]
  by_cases c : S / 2 ^ k % 2 = 1
  · rw [if_pos (by simpa using c)]; omega
  · rw [if_neg (by simpa using c)]; omega
/-- The bits of a set. -/
def encB (A : Nat → Bool) : Nat → Nat
  | 0 => 0
  | n + 1 => (if A n then 2 ^ n else 0) + encB A n
theorem encB_lt (A : Nat → Bool) (n : Nat) : encB A n < 2 ^ n := by
  induction n with
  | zero => exact Nat.one_pos
  | succ n ih => simp only [encB, Nat.pow_succ]; split <;> omega
theorem encB_bit (A : Nat → Bool) (n : Nat) : ∀ v, v < n → (encB A n).testBit v = A v := by
  induction n with
  | zero => intro v hv; omega
  | succ n ih =>
    intro v hv
    simp only [encB]
    by_cases e : v = n
    · subst e
      cases h : A v
      · rw [if_neg (by simp), Nat.zero_add]; exact Nat.testBit_lt_two_pow (encB_lt A v)
      · rw [if_pos rfl, Nat.testBit_two_pow_add_eq, Nat.testBit_lt_two_pow (encB_lt A v)]; rfl
    · cases h : A n
      · rw [if_neg (by simp), Nat.zero_add]; exact ih v (by omega)
      · rw [if_pos rfl, Nat.testBit_two_pow_add_gt (by omega)]; exact ih v (by omega)
theorem outw_same {n : Nat} {w : Nat → Nat → Int} {A B : Nat → Bool} (h : ∀ u, u < n → A u = B u) (v : Nat) : outw n w A v = outw n w B v :=
  sumN_congr fun u hu => by rw [h u hu]
/-- Tight, by the sets as bits. -/
theorem tight_bits {n : Nat} {w : Nat → Nat → Int} {q : Nat} (hq : q < n) {d : Nat → Int} : Tight n w q d ↔ ∀ S, 1 ≤ S → S < 2 ^ n → S.testBit q = false → ¬ Legal n w d (fun u => S.testBit u) := by
  constructor
  · intro h S h1 h2 h3 hl
    obtain ⟨v, hv, hb⟩ : ∃ v, v < n ∧ S.testBit v = true := by
      obtain ⟨v, hv⟩ := Nat.exists_testBit_of_ne_zero (x := S) (by omega)
      refine ⟨v, ?_, hv⟩
      rcases Nat.lt_or_ge v n with c | c
      · exact c
      · rw [Nat.testBit_lt_two_pow (Nat.lt_of_lt_of_le h2 (Nat.pow_le_pow_right (by decide) c))] at hv; cases hv
    obtain ⟨u, hu, hub, hlt⟩ := h (fun u => S.testBit u) h3 ⟨v, hv, hb⟩
    have := hl u hu hub
    omega
  · intro h A hA hex
    obtain ⟨x, hx, hxA⟩ := hex
    have hb := encB_bit A n
    have hpos : 1 ≤ encB A n := by
      rcases Nat.eq_zero_or_pos (encB A n) with c | c
      · have := hb x hx; rw [c, Nat.zero_testBit, hxA] at this; cases this
      · exact c
    have hn := h (encB A n) hpos (encB_lt A n) (by rw [hb q hq]; exact hA)
    false_or_by_contra
    rename_i hc
    refine hn fun v hv hvb => ?_
    have hvb' : (encB A n).testBit v = true := hvb
    rw [hb v hv] at hvb'
    rw [outw_same hb v]
    rcases Int.lt_or_le (d v) (outw n w A v) with c | c
    · exact absurd ⟨v, hv, hvb', c⟩ hc
    · exact c
/-- A part of the sum that out makes. -/
def outK (es : List Tri) (S v k : Nat) : Int := sumN k fun u => if S.testBit u then 0 else wgt es v u
theorem outK_succ (es : List Tri) (S v k : Nat) : outK es S v (k + 1) = outK es S v k + if S.testBit k then 0 else wgt es v k := rfl
theorem outK_le {n : Nat} {es : List Tri} (hE : Edges n es) (S v k : Nat) : 0 ≤ outK es S v k ∧ outK es S v k ≤ 50 * k := by
  induction k with
  | zero => exact ⟨Int.le_refl 0, Int.le_refl 0⟩
  | succ k ih =>
    rw [outK_succ]
    split
    · push_cast; omega
    · by_cases e : v = k
      · subst e; rw [wgt_self]; push_cast; omega
      · have := wgt_le hE e; push_cast; omega
/-- May a set fire, as far as the first k vertices. -/
def mayK (n : Nat) (es : List Tri) (d : List Int) (S k : Nat) : Prop := ∀ v, v < k → S.testBit v = true → outK es S v n ≤ d.getD v 0
theorem may_legal (n : Nat) (es : List Tri) (d : List Int) (S : Nat) : mayK n es d S n ↔ Legal n (wgt es) (fun v => d.getD v 0) (fun u => S.testBit u) := Iff.rfl
/-- A superstable configuration, as the reference says it. -/
def CalmP (n : Nat) (es : List Tri) (q : Nat) (d : List Int) : Prop := (∀ v, v < n → 0 ≤ d.getD v 0 ∧ (v = q → d.getD v 0 = 0)) ∧ Tight n (wgt es) q fun v => d.getD v 0
end Go.Proofs.YtefggpdobjboeaaGreat

namespace Go.Proofs.YtefggpdobjboeaaGreat
open Go.RowKit Go.Shelf

set_option maxRecDepth 100000 in
set_option maxHeartbeats 4000000 in
theorem rOut_any (g : Value) (n v S : Nat) (es : List Tri) (w : World) (hg : GV w g n es) (hE : Edges n es) (hn : n ≤ 12) (hS : S < 4611686018427387904) :
    Calls Tryz.prog 199 #[g, .int .i64 (S : Int), .int .i64 (v : Int)] w fun e w' => e = .returned (.int .i64 (outK es S v n)) ∧ Below w.heap.size w w' := by
  obtain ⟨A, c, rfl, -⟩ := hg.open_
  obtain ⟨W0, hW0⟩ : ∃ W0, W0 = w.alloc (.cells #[.int .i64 (n:Int), .slice A es.length c] 24) := ⟨_, rfl⟩
  have hb0 : Below w.heap.size w W0 := by rw [hW0]; exact below_alloc w _
  have hx0 : BL W0 w.heap.size 24 [.int .i64 (n:Int), .slice A es.length c] := by rw [hW0]; exact BL.new' w _ _
  have c0 := hx0.cell 0
  have c1 := hx0.cell 1
  have HX0 := Lib.hid hx0
  have HG0 := Lib.hid (hg.below hb0)
  have HB0 := Lib.hid hb0
  have HW0 := Lib.hid hW0
  rw [hW0] at c0 c1
  clear hg hx0 hW0
  have HE := Lib.hid hE
  clear hE hb0
  go_enter Tryz.func199, Tryz.ntmps199
  go_wp2_with fail
  rw [← HW0.out]
  clear c0 c1
  go_loopw [7, 8] (fun s i wr => ∃ k : Nat, k ≤ n ∧ s = .int .i64 (outK es S v k) ∧ i = .int .i64 (k : Int) ∧ Hid (Below W0.heap.size W0 wr)) (fun _ i _ => n - (intOf i).toNat)
  case atStart => exact ⟨0, Nat.zero_le _, rfl, rfl, Below.refl _ _⟩
  case round =>
    obtain ⟨k, hk, rfl, rfl, hb⟩ := hrel
    have d0 := (HX0.out.bel hb.out).cell 0
    have d1 := (HX0.out.bel hb.out).cell 1
    by_cases hlt : k < n
    · have hv := outK_le HE.out S v k
      have hbit := bit_at hS k
      have hst := outK_succ es S v k
      by_cases hkv : k = v
      · have HS : Hid (outK es S v (k + 1) = outK es S v k) := by
          show _ = _
          rw [hst, hkv, wgt_self]; split <;> exact Int.add_zero _
        have t1 : ((k : Int) != (v : Int)) = false := by simp; omega
        clear hkv hbit hst
        go_wp2
        go_roundw
        case rel => exact ⟨k + 1, by omega, by rw [HS.out], by go_num, hb.out⟩
        case measure => simp [intOf]; omega
      · have t1 : ((k : Int) != (v : Int)) = true := by simp; omega
        cases hb2 : S.testBit k
        · rw [hb2, if_neg (by simp)] at hbit hst
          have hw := wgt_le HE.out (u := v) (v := k) (fun e => hkv e.symm)
          have hbt := between_any _ (n : Int) es (k : Int) (v : Int) wr (HG0.out.below hb.out)
          rw [btw_wgt HE.out hkv, wgt_sym] at hbt
          have HBt := Lib.hid hbt
          have HS := Lib.hid hst
          clear hkv hbt hst hb2
          generalize wgt es v k = m at *
          generalize outK es S v k = x at *
          go_wp2_with fail
          refine HBt.out.mono ?_
          rintro e w1 ⟨rfl, hb1⟩
          have HB1 := Lib.hid (hb.out.trans (hb1.mono hb.out.size))
          clear hb1
          clear d0 d1
          go_wp2
          go_roundw
          case rel => exact ⟨k + 1, by omega, by rw [HS.out], by go_num, HB1.out⟩
          case measure => simp [intOf]; omega
        · rw [hb2, if_pos rfl] at hbit hst
          have HS := Lib.hid (hst.trans (Int.add_zero _))
          clear hkv hst hb2
          go_wp2
          go_roundw
          case rel => exact ⟨k + 1, by omega, by rw [HS.out], by go_num, hb.out⟩
          case measure => simp [intOf]; omega
    · obtain rfl : k = n := by omega
      go_wp2
      go_ret
      exact ⟨rfl, HB0.out.trans (hb.out.mono HB0.out.size)⟩
def mayP (n : Nat) (es : List Tri) (cs : List Int) (m v : Nat) : Bool := !m.testBit v || decide (outw n (wgt es) (fun u => m.testBit u) v ≤ cs.getD v 0)
theorem mayN_eq (n : Nat) (es : List Tri) (cs : List Int) (m : Nat) : mayN n es cs m = (List.range n).all (mayP n es cs m) := rfl
theorem all_range_succ (p : Nat → Bool) (k : Nat) : (List.range (k + 1)).all p = ((List.range k).all p && p k) := by rw [List.range_succ, List.all_append]; simp
theorem all_range_false {p : Nat → Bool} {k n : Nat} (hk : k < n) (h : p k = false) : (List.range n).all p = false := by
  rw [List.all_eq_false]; exact ⟨k, List.mem_range.2 hk, by simp [h]⟩
set_option maxRecDepth 100000 in
set_option maxHeartbeats 4000000 in
theorem rMay_any (g vd : Value) (n S : Nat) (es : List Tri) (d : List Int) (w : World) (hg : GV w g n es) (hd : RI w vd d) (hE : Edges n es) (hn : n ≤ 12) (hS : S < 4611686018427387904) (hdl : d.length = n) :
    Calls Tryz.prog 190 #[g, vd, .int .i64 (S : Int)] w fun e w' => e = .returned (.bool (mayN n es d S)) ∧ Below w.heap.size w w' := by
  rw [mayN_eq]
  obtain ⟨A2, c2, rfl, -⟩ := hd.open_
  obtain ⟨A, c, rfl, -⟩ := hg.open_
  obtain ⟨W0, hW0⟩ : ∃ W0, W0 = w.alloc (.cells #[.int .i64 (n:Int), .slice A es.length c] 24) := ⟨_, rfl⟩
  have hb0 : Below w.heap.size w W0 := by rw [hW0]; exact below_alloc w _
  have hx0 : BL W0 w.heap.size 24 [.int .i64 (n:Int), .slice A es.length c] := by rw [hW0]; exact BL.new' w _ _
  have c0 := hx0.cell 0
  have c1 := hx0.cell 1
  have HX0 := Lib.hid hx0
  have HG0 := Lib.hid (hg.below hb0)
  have HB0 := Lib.hid hb0
  have HW0 := Lib.hid hW0
  rw [hW0] at c0 c1
  clear hg hx0 hW0
  obtain ⟨A3, c3, he3, -, -, hcell⟩ := (RI.below hd hb0).open_
  simp only [Value.slice.injEq, true_and] at he3
  obtain ⟨rfl, rfl⟩ := he3
  have HC := Lib.hid hcell
  have HE := Lib.hid hE
  have HDl := Lib.hid hdl
  clear hcell hd hE hb0 hdl
  go_enter Tryz.func190, Tryz.ntmps190
  go_wp2_with fail
  rw [← HW0.out]
  clear c0 c1
  go_loopw [7] (fun i wr => ∃ k : Nat, k ≤ n ∧ i = .int .i64 (k : Int) ∧ Hid ((List.range k).all (mayP n es d S) = true) ∧ Hid (Below W0.heap.size W0 wr)) (fun i _ => n - (intOf i).toNat)
  case atStart => exact ⟨0, Nat.zero_le _, rfl, rfl, Below.refl _ _⟩
  case round =>
    obtain ⟨k, hk, rfl, hA, hb⟩ := hrel
    have d0 := (HX0.out.bel hb.out).cell 0
    have d1 := (HX0.out.bel hb.out).cell 1
    by_cases hlt : k < n
    · have hbit := bit_at hS k
      cases hb2 : S.testBit k
      · rw [hb2, if_neg (by simp)] at hbit
        have HS : Hid ((List.range (k + 1)).all (mayP n es d S) = true) := by
          show _ = _
          rw [all_range_succ, hA.out]; simp [mayP, hb2]
        clear hb2
        go_wp2_with fail
        go_quiet (fail)
        go_wp2
        go_roundw
        case rel => exact ⟨k + 1, by omega, by go_num, HS.out, below_drewN hb.out nq⟩
        case measure => simp [intOf]; omega
      · rw [hb2, if_pos rfl] at hbit
        obtain ⟨ad, z, rfl, hadb, hz, hcl⟩ := HC.out k (by rw [HDl.out]; exact hlt)
        have hcl1 : wr.cell? (ad.add k) = some (.int .i64 z) := (hb.out.cell (by rw [block_of_add]; exact hadb)).trans hcl
        have hzz : d.getD k 0 = z := by rw [List.getD_eq_getElem?_getD, hz.out]; rfl
        have hkd : k < d.length := by rw [HDl.out]; exact hlt
        have HO := Lib.hid (rOut_any _ n k S es wr.drew (HG0.out.below hb.out.drew) HE.out hn hS)
        have hm : mayP n es d S k = decide (outK es S k n ≤ z) := by
          unfold mayP
          rw [hb2, hzz]; rfl
        have HM := Lib.hid hm
        have HK0 : Hid (wr.drew.cell? ⟨w.heap.size, 0, none⟩ = some (.int .i64 (n : Int)) ∧ wr.drew.cell? ⟨w.heap.size, 1, none⟩ = some (.slice A es.length c) ∧ wr.drew.cell? (ad.add k) = some (.int .i64 z)) := ⟨d0, d1, hcl1⟩
        have HK1 : Hid (∀ w1, Below wr.drew.heap.size wr.drew w1 → w1.cell? ⟨w.heap.size, 0, none⟩ = some (.int .i64 (n : Int)) ∧ w1.cell? ⟨w.heap.size, 1, none⟩ = some (.slice A es.length c) ∧ w1.cell? (ad.add k) = some (.int .i64 z)) := fun w1 h =>
          ⟨(h.cell (p := ⟨w.heap.size, 0, none⟩) (block_lt_of_cell d0)).trans d0, (h.cell (p := ⟨w.heap.size, 1, none⟩) (block_lt_of_cell d1)).trans d1, (h.cell (p := ad.add k) (block_lt_of_cell hcl1)).trans hcl1⟩
        clear hb2 hcl hzz hm HC hcl1
        generalize outK es S k n = x at *
        go_wp2_with fail
        go_region_held3 (fun W' : World => W'.cell? ⟨w.heap.size, 0, none⟩ = some (.int .i64 (n : Int)) ∧ W'.cell? ⟨w.heap.size, 1, none⟩ = some (.slice A es.length c) ∧ W'.cell? (ad.add k) = some (.int .i64 z)) (first | exact HK0.out | exact HKw.out) (first | (go_at_call 199; refine HO.out.mono ?_; rintro e w6 ⟨rfl, hb6⟩; have HKw := Lib.hid (HK1.out w6 hb6); have HBw := Lib.hid (hb.out.trans ((Below.refl _ _).drew.trans (hb6.mono (Nat.le_refl _)) |>.mono hb.out.size)); clear hb6))
        all_goals
          by_cases hzx : z < x
          · have HF : Hid ((List.range n).all (mayP n es d S) = false) := all_range_false hlt (by rw [HM.out]; simp; omega)
            go_wp2
            go_ret
            exact ⟨ret_b HF.out.symm, HB0.out.trans (HBw.out.mono HB0.out.size)⟩
          · have HS : Hid ((List.range (k + 1)).all (mayP n es d S) = true) := by
              show _ = _
              rw [all_range_succ, hA.out, HM.out]; simp; omega
            go_wp2
            go_roundw
            case rel => exact ⟨k + 1, by omega, by go_num, HS.out, HBw.out⟩
            case measure => simp [intOf]; omega
    · obtain rfl : k = n := by omega
      go_wp2
      go_ret
      exact ⟨ret_b hA.out.symm, HB0.out.trans (hb.out.mono HB0.out.size)⟩
end Go.Proofs.YtefggpdobjboeaaGreat

namespace Go.Proofs.YtefggpdobjboeaaGreat
open Go.RowKit Go.Shelf

def tgtP (n q : Nat) (es : List Tri) (cs : List Int) (m : Nat) : Bool := m == 0 || m.testBit q || !mayN n es cs m
theorem tightB_eq (n q : Nat) (es : List Tri) (cs : List Int) : tightB n q es cs = (List.range (2 ^ n)).all (tgtP n q es cs) := rfl
theorem pow6 {n : Nat} (h : n ≤ 6) : 2 ^ n ≤ 64 := Nat.pow_le_pow_right (n := 2) (by decide) h
theorem shl_at {n : Nat} (h : n ≤ 6) : wrap64 (2 ^ n) = ((2 ^ n : Nat) : Int) := by
  have := pow6 h
  have e : ((2 : Int) ^ n) = ((2 ^ n : Nat) : Int) := by push_cast; rfl
  rw [e]
  generalize 2 ^ n = N at *
  exact IntWalk.wrap64_in _ (by omega)
set_option maxRecDepth 100000 in
set_option maxHeartbeats 4000000 in
theorem rTight_any (g vd : Value) (n q : Nat) (es : List Tri) (d : List Int) (w : World) (hg : GV w g n es) (hd : RI w vd d) (hE : Edges n es) (hn : n ≤ 6) (hq : q < n) (hdl : d.length = n) :
    Calls Tryz.prog 175 #[g, .int .i64 (q : Int), vd] w fun e w' => e = .returned (.bool (tightB n q es d)) ∧ Below w.heap.size w w' := by
  rw [tightB_eq]
  obtain ⟨A2, c2, rfl, -⟩ := hd.open_
  obtain ⟨A, c, rfl, -⟩ := hg.open_
  obtain ⟨W0, hW0⟩ : ∃ W0, W0 = w.alloc (.cells #[.int .i64 (n:Int), .slice A es.length c] 24) := ⟨_, rfl⟩
  have hb0 : Below w.heap.size w W0 := by rw [hW0]; exact below_alloc w _
  have hx0 : BL W0 w.heap.size 24 [.int .i64 (n:Int), .slice A es.length c] := by rw [hW0]; exact BL.new' w _ _
  have c0 := hx0.cell 0
  have c1 := hx0.cell 1
  have HX0 := Lib.hid hx0
  have HG0 := Lib.hid (hg.below hb0)
  have HB0 := Lib.hid hb0
  have HW0 := Lib.hid hW0
  rw [hW0] at c0 c1
  clear hg hx0 hW0
  have HD0 := Lib.hid (RI.below hd hb0)
  have hsh := shl_at hn
  have hp6 := pow6 hn
  have hp1 : 1 ≤ 2 ^ n := Nat.one_le_two_pow
  obtain ⟨N, hN⟩ : ∃ N, N = 2 ^ n := ⟨_, rfl⟩
  rw [← hN] at hp6 hp1 hsh ⊢
  have HE := Lib.hid hE
  have HDl := Lib.hid hdl
  clear hd hE hb0 hdl hN
  go_enter Tryz.func175, Tryz.ntmps175
  go_wp2_with fail
  rw [← HW0.out]
  clear c0 c1
  go_loopw [7] (fun i wr => ∃ m : Nat, 1 ≤ m ∧ m ≤ N ∧ i = .int .i64 (m : Int) ∧ Hid ((List.range m).all (tgtP n q es d) = true) ∧ Hid (Below W0.heap.size W0 wr)) (fun i _ => N - (intOf i).toNat)
  case atStart => exact ⟨1, Nat.le_refl _, hp1, rfl, rfl, Below.refl _ _⟩
  case round =>
    obtain ⟨m, hm1, hm, rfl, hA, hb⟩ := hrel
    have d0 := (HX0.out.bel hb.out).cell 0
    have d1 := (HX0.out.bel hb.out).cell 1
    by_cases hlt : m < N
    · have hbit := bit_at (S := m) (by omega) q
      cases hb2 : m.testBit q
      · rw [hb2, if_neg (by simp)] at hbit
        have hmy := rMay_any _ _ n m es d wr (HG0.out.below hb.out) (RI.below HD0.out hb.out) HE.out (by omega) (by omega) HDl.out
        have hm0 : (m == 0) = false := by rw [beq_eq_false_iff_ne]; omega
        have htp : tgtP n q es d m = !mayN n es d m := by unfold tgtP; rw [hb2, hm0]; rfl
        cases hmb : mayN n es d m
        · rw [hmb] at hmy htp
          have HM := Lib.hid hmy
          have HS : Hid ((List.range (m + 1)).all (tgtP n q es d) = true) := by show _ = _; rw [all_range_succ, hA.out, htp]; rfl
          clear hb2 hmy hm0 htp hmb
          go_wp2_with fail
          refine HM.out.mono ?_
          rintro e w1 ⟨rfl, hb1⟩
          have HB1 := Lib.hid (hb.out.trans (hb1.mono hb.out.size))
          clear hb1
          clear d0 d1
          go_wp2
          go_roundw
          case rel => exact ⟨m + 1, by omega, by omega, by go_num, HS.out, HB1.out⟩
          case measure => simp [intOf]; omega
        · rw [hmb] at hmy htp
          have HM := Lib.hid hmy
          have HS : Hid ((List.range N).all (tgtP n q es d) = false) := all_range_false hlt (by rw [htp]; rfl)
          clear hb2 hmy hm0 htp hmb
          go_wp2_with fail
          refine HM.out.mono ?_
          rintro e w1 ⟨rfl, hb1⟩
          have HB1 := Lib.hid (hb.out.trans (hb1.mono hb.out.size))
          clear hb1
          clear d0 d1
          go_wp2
          go_ret
          exact ⟨ret_b HS.out.symm, HB0.out.trans (HB1.out.mono HB0.out.size)⟩
      · rw [hb2, if_pos rfl] at hbit
        have HS : Hid ((List.range (m + 1)).all (tgtP n q es d) = true) := by show _ = _; rw [all_range_succ, hA.out]; simp [tgtP, hb2]
        clear hb2
        go_wp2
        go_roundw
        case rel => exact ⟨m + 1, by omega, by omega, by go_num, HS.out, hb.out⟩
        case measure => simp [intOf]; omega
    · obtain rfl : m = N := by omega
      go_wp2
      go_ret
      exact ⟨ret_b hA.out.symm, HB0.out.trans (hb.out.mono HB0.out.size)⟩
/-- What Calm asks of one vertex. -/
def okV (q : Nat) (d : List Int) (v : Nat) : Bool := decide (0 ≤ d.getD v 0) && (decide (v ≠ q) || decide (d.getD v 0 = 0))
def calmB (n q : Nat) (es : List Tri) (d : List Int) : Bool := (List.range n).all (okV q d) && tightB n q es d
set_option maxRecDepth 100000 in
set_option maxHeartbeats 4000000 in
theorem rCalm_any (g vd : Value) (n q : Nat) (es : List Tri) (d : List Int) (w : World) (hg : GV w g n es) (hd : RI w vd d) (hE : Edges n es) (hn : n ≤ 6) (hq : q < n) (hdl : d.length = n) :
    Calls Tryz.prog 146 #[g, .int .i64 (q : Int), vd] w fun e w' => e = .returned (.bool (calmB n q es d)) ∧ Below w.heap.size w w' := by
  obtain ⟨A2, c2, rfl, -⟩ := hd.open_
  obtain ⟨A, c, rfl, -⟩ := hg.open_
  obtain ⟨W0, hW0⟩ : ∃ W0, W0 = w.alloc (.cells #[.int .i64 (n:Int), .slice A es.length c] 24) := ⟨_, rfl⟩
  have hb0 : Below w.heap.size w W0 := by rw [hW0]; exact below_alloc w _
  have hx0 : BL W0 w.heap.size 24 [.int .i64 (n:Int), .slice A es.length c] := by rw [hW0]; exact BL.new' w _ _
  have c0 := hx0.cell 0
  have c1 := hx0.cell 1
  have HX0 := Lib.hid hx0
  have HG0 := Lib.hid (hg.below hb0)
  have HB0 := Lib.hid hb0
  have HW0 := Lib.hid hW0
  rw [hW0] at c0 c1
  clear hg hx0 hW0
  obtain ⟨A3, c3, he3, -, -, hcell⟩ := (RI.below hd hb0).open_
  simp only [Value.slice.injEq, true_and] at he3
  obtain ⟨rfl, rfl⟩ := he3
  have HC := Lib.hid hcell
  have HT := Lib.hid (rTight_any _ _ n q es d W0 HG0.out (RI.below hd hb0) hE hn hq hdl)
  have HDl := Lib.hid hdl
  have e0 := HX0.out.cell 0
  have e1 := HX0.out.cell 1
  clear hcell hd hE hb0 hdl
  go_enter Tryz.func146, Tryz.ntmps146
  go_wp2_with fail
  rw [← HW0.out]
  clear c0 c1
  go_loop [7] (fun i => ∃ k : Nat, k ≤ n ∧ i = .int .i64 (k : Int) ∧ Hid ((List.range k).all (okV q d) = true)) (fun i => n - (intOf i).toNat)
  case atStart => exact ⟨0, Nat.zero_le _, rfl, rfl⟩
  case round =>
    obtain ⟨k, hk, rfl, hA⟩ := hrel
    by_cases hlt : k < n
    · obtain ⟨ad, z, rfl, hadb, hz, hcl⟩ := HC.out k (by rw [HDl.out]; exact hlt)
      have hzz : d.getD k 0 = z := by rw [List.getD_eq_getElem?_getD, hz.out]; rfl
      have hkd : k < d.length := by rw [HDl.out]; exact hlt
      have hov : okV q d k = (decide (0 ≤ z) && (decide (k ≠ q) || decide (z = 0))) := by unfold okV; rw [hzz]
      have HO := Lib.hid hov
      clear HC hzz hov
      by_cases hneg : z < 0
      · have HF : Hid (calmB n q es d = false) := by
          show _ = _
          unfold calmB
          rw [all_range_false hlt (by rw [HO.out]; simp; omega)]; rfl
        go_wp2
        go_ret
        exact ⟨ret_b HF.out.symm, HB0.out⟩
      · by_cases hkq : k = q
        · have t1 : ((k : Int) == (q : Int)) = true := by simp; omega
          by_cases hz0 : z = 0
          · have t2 : (z != 0) = false := by simpa using hz0
            have HS : Hid ((List.range (k + 1)).all (okV q d) = true) := by show _ = _; rw [all_range_succ, hA.out, HO.out]; simp [hz0]
            clear hkq hz0
            go_wp2
            go_round
            case rel => exact ⟨k + 1, by omega, by go_num, HS.out⟩
            case measure => simp [intOf]; omega
          · have t2 : (z != 0) = true := by simpa using hz0
            have HF : Hid (calmB n q es d = false) := by
              show _ = _
              unfold calmB
              rw [all_range_false hlt (by rw [HO.out]; simp [hkq, hz0])]; rfl
            clear hkq hz0
            go_wp2
            go_ret
            exact ⟨ret_b HF.out.symm, HB0.out⟩
        · have t1 : ((k : Int) == (q : Int)) = false := by simp; omega
          have HS : Hid ((List.range (k + 1)).all (okV q d) = true) := by show _ = _; rw [all_range_succ, hA.out, HO.out]; simp [hkq]; omega
          clear hkq
          go_wp2
          go_round
          case rel => exact ⟨k + 1, by omega, by go_num, HS.out⟩
          case measure => simp [intOf]; omega
    · have HF : Hid (calmB n q es d = tightB n q es d) := by
        show _ = _
        unfold calmB
        rw [show k = n by omega] at hA
        rw [hA.out]; rfl
      go_wp2_with fail
      refine HT.out.mono ?_
      rintro e w1 ⟨rfl, hb1⟩
      have HB1 := Lib.hid (HB0.out.trans (hb1.mono HB0.out.size))
      clear hb1
      clear e0 e1
      go_wp2
      go_ret
      exact ⟨ret_b HF.out.symm, HB1.out⟩
/-- The greatest stable configuration. -/
def topL (n : Nat) (es : List Tri) (q : Nat) : List Int := (List.range n).map fun v => if v = q then 0 else valK es v n - 1
set_option maxRecDepth 100000 in
set_option maxHeartbeats 4000000 in
theorem rGreat_any (g : Value) (n q : Nat) (es : List Tri) (w : World) (hg : GV w g n es) (hE : Edges n es) (hn : n ≤ 6) :
    Calls Tryz.prog 145 #[g, .int .i64 (q : Int)] w fun e w' => ∃ v, e = .returned v ∧ OI w' w.heap.size v (topL n es q) ∧ Below w.heap.size w w' := by
  obtain ⟨A, c, rfl, -⟩ := hg.open_
  obtain ⟨W0, hW0⟩ : ∃ W0, W0 = w.alloc (.cells #[.int .i64 (n:Int), .slice A es.length c] 24) := ⟨_, rfl⟩
  have hb0 : Below w.heap.size w W0 := by rw [hW0]; exact below_alloc w _
  have hx0 : BL W0 w.heap.size 24 [.int .i64 (n:Int), .slice A es.length c] := by rw [hW0]; exact BL.new' w _ _
  have c0 := hx0.cell 0
  have c1 := hx0.cell 1
  have HX0 := Lib.hid hx0
  have HG0 := Lib.hid (hg.below hb0)
  have HB0 := Lib.hid hb0
  have HW0 := Lib.hid hW0
  rw [hW0] at c0 c1
  clear hg hx0 hW0
  have hmk := run_make_row' (P := Tryz.prog) 25 3 (.int .i64 0) 8 Tryz.underlying25 int_info rfl .i64 .i64 n (by omega) (by omega)
  have hz0 : W0.heap.size = w.heap.size + 1 := by rw [HW0.out]; simp
  have HO0 := own_zeros W0 n (by omega)
  have HB1 := Lib.hid (below_alloc W0 (.cells (madeCells #[Value.int .i64 0] n) 3))
  obtain ⟨W1, hW1⟩ : ∃ W1, W1 = W0.alloc (.cells (madeCells #[Value.int .i64 0] n) 3) := ⟨_, rfl⟩
  rw [← hW1, hz0] at HO0
  rw [← hW1] at HB1
  have HO0 := Lib.hid HO0
  have HW1 := Lib.hid hW1
  have HZ := Lib.hid hz0
  have HE := Lib.hid hE
  clear hE hb0 hz0 hW1
  go_enter Tryz.func145, Tryz.ntmps145
  go_wp2_with fail
  rw [← HW0.out]
  go_wp2_with fail
  rw [← HW1.out]
  clear c0 c1 hmk
  go_loopw [6] (fun i wr => ∃ (k : Nat) (os : List Int), k ≤ n ∧ i = .int .i64 (k : Int) ∧ Hid (os.length = n) ∧ Hid (∀ j, j < n → os.getD j 0 = if j < k ∧ j ≠ q then valK es j n - 1 else 0) ∧
    Hid (OI wr (w.heap.size + 1) (.slice (some ⟨w.heap.size + 1, 0, none⟩) n n) os) ∧ Hid (Below W0.heap.size W0 wr)) (fun i _ => n - (intOf i).toNat)
  case atStart => exact ⟨0, List.replicate n 0, Nat.zero_le _, rfl, by simp [Hid], (fun j hj => by rw [if_neg (by omega)]; simp [List.getD_eq_getElem?_getD, hj]), HO0.out, HB1.out⟩
  case round =>
    obtain ⟨k, os, hk, rfl, ho1, ho2, hown, hbel⟩ := hrel
    have d0 := (HX0.out.bel hbel.out).cell 0
    have d1 := (HX0.out.bel hbel.out).cell 1
    by_cases hlt : k < n
    · by_cases hkq : k = q
      · have t1 : ((k : Int) != (q : Int)) = false := by simp; omega
        have HG2 : Hid (∀ j, j < n → os.getD j 0 = if j < k + 1 ∧ j ≠ q then valK es j n - 1 else 0) := fun j hj => by
          rw [ho2.out j hj]
          by_cases a : j < k ∧ j ≠ q
          · rw [if_pos a, if_pos (by omega)]
          · rw [if_neg a, if_neg (by omega)]
        clear hkq
        go_wp2
        go_roundw
        case rel => exact ⟨k + 1, os, by omega, by go_num, ho1.out, HG2.out, hown.out, hbel.out⟩
        case measure => simp [intOf]; omega
      · have t1 : ((k : Int) != (q : Int)) = true := by simp; omega
        have HV := Lib.hid (rVal_any _ n k es wr (HG0.out.below hbel.out) HE.out (by omega))
        have hvb := valK_le HE.out k n
        have HG2 : Hid (∀ j, j < n → (os.set k (valK es k n - 1)).getD j 0 = if j < k + 1 ∧ j ≠ q then valK es j n - 1 else 0) := fun j hj => by
          rw [List.getD_eq_getElem?_getD, List.getElem?_set]
          by_cases e : k = j
          · subst e
            rw [if_pos rfl, if_pos (by rw [ho1.out]; exact hlt), if_pos ⟨by omega, hkq⟩]; rfl
          · rw [if_neg e, ← List.getD_eq_getElem?_getD, ho2.out j hj]
            by_cases a : j < k ∧ j ≠ q
            · rw [if_pos a, if_pos (by omega)]
            · rw [if_neg a, if_neg (by omega)]
        have HO1 : Hid ((os.set k (valK es k n - 1)).length = n) := by show _ = _; rw [List.length_set]; exact ho1.out
        have HN : Hid (∀ w1, Below wr.heap.size wr w1 → w1.frozen? ⟨w.heap.size + 1, k, none⟩ = false ∧ (∃ z, w1.cell? ⟨w.heap.size + 1, k, none⟩ = some (.int .i64 z)) ∧
            OI (w1.setCell ⟨w.heap.size + 1, k, none⟩ (.int .i64 (valK es k n - 1))) (w.heap.size + 1) (.slice (some ⟨w.heap.size + 1, 0, none⟩) n n) (os.set k (valK es k n - 1)) ∧
            Below W0.heap.size W0 (w1.setCell ⟨w.heap.size + 1, k, none⟩ (.int .i64 (valK es k n - 1)))) := fun w1 h => by
          obtain ⟨-, -, q0, q1, q2⟩ := OI.at' (hown.out.below h) (k := k) (by rw [ho1.out]; exact hlt)
          exact ⟨q1, ⟨_, q0⟩, (q2 _).1, (hbel.out.trans (h.mono hbel.out.size)).setCell (p := ⟨w.heap.size + 1, k, none⟩) (by simp; have := HZ.out; omega) _⟩
        clear hkq hown ho1 ho2
        generalize valK es k n = x at *
        go_wp2_with fail
        refine HV.out.mono ?_
        rintro e w1 ⟨rfl, hb1⟩
        have HNw := Lib.hid (HN.out w1 hb1)
        obtain ⟨z, hzc⟩ := HNw.out.2.1
        have f1 := HNw.out.1
        clear hb1 d0 d1
        go_wp2
        go_roundw
        case rel => exact ⟨k + 1, _, by omega, by go_num, HO1.out, HG2.out, HNw.out.2.2.1, HNw.out.2.2.2⟩
        case measure => simp [intOf]; omega
    · obtain rfl : k = n := by omega
      have e : os = topL k es q := by
        refine List.ext_getElem? fun j => ?_
        by_cases hj : j < k
        · have h := ho2.out j hj
          have l1 : j < os.length := by rw [ho1.out]; exact hj
          rw [List.getD_eq_getElem?_getD, List.getElem?_eq_getElem l1] at h
          simp only [Option.getD_some] at h
          rw [List.getElem?_eq_getElem l1, h]
          unfold topL
          rw [List.getElem?_map, List.getElem?_range hj]
          simp only [Option.map_some]
          by_cases a : j = q
          · rw [if_pos a, if_neg (by omega)]
          · rw [if_neg a, if_pos ⟨hj, a⟩]
        · rw [List.getElem?_eq_none (by rw [ho1.out]; omega), List.getElem?_eq_none (by simp [topL]; omega)]
      subst e
      go_wp2
      go_ret
      exact ⟨_, rfl, OV.mono hown.out (by omega), HB0.out.trans (hbel.out.mono HB0.out.size)⟩
end Go.Proofs.YtefggpdobjboeaaGreat

namespace Go.Proofs.YtefggpdobjboeaaGreat
open Go.RowKit Go.Shelf

def expand (x : List Int) (T : Nat) : List (List Int) := (List.range T).map fun (t : Nat) => x ++ [(t : Int)]
theorem expand_succ (x : List Int) (T : Nat) : expand x (T + 1) = expand x T ++ [x ++ [(T : Int)]] := by unfold expand; rw [List.range_succ, List.map_append]; rfl
theorem expand_len (x : List Int) (T : Nat) : (expand x T).length = T := by simp [expand]
def nextR (rows : List (List Int)) (T i : Nat) : List (List Int) := (rows.take i).flatMap fun x => expand x T
theorem nextR_succ {rows : List (List Int)} {i : Nat} {x : List Int} (h : rows[i]? = some x) (T : Nat) : nextR rows T (i + 1) = nextR rows T i ++ expand x T := by
  unfold nextR; rw [List.take_add_one, h, List.flatMap_append]; simp
theorem nextR_len {rows : List (List Int)} (T : Nat) {i : Nat} (h : i ≤ rows.length) : (nextR rows T i).length = i * T := by
  induction i with
  | zero => simp [nextR]
  | succ i ih =>
    rw [nextR_succ (List.getElem?_eq_getElem (by omega : i < rows.length)), List.length_append, ih (by omega), expand_len, Nat.succ_mul]
def cntT (tops : List Int) (v : Nat) : Nat := (tops.getD v 0 + 1).toNat
/-- All rows of k numbers that are at most the tops. -/
def boxK (tops : List Int) : Nat → List (List Int)
  | 0 => [[]]
  | k + 1 => nextR (boxK tops k) (cntT tops k) (boxK tops k).length
theorem boxK_len (tops : List Int) (k : Nat) : (boxK tops (k + 1)).length = (boxK tops k).length * cntT tops k := nextR_len _ (Nat.le_refl _)
theorem boxK_rows (tops : List Int) (k : Nat) : ∀ x ∈ boxK tops k, x.length = k := by
  induction k with
  | zero => intro x hx; simp only [boxK, List.mem_singleton] at hx; rw [hx]; rfl
  | succ k ih =>
    intro x hx
    simp only [boxK, nextR, List.take_length, List.mem_flatMap] at hx
    obtain ⟨y, hy, hx⟩ := hx
    unfold expand at hx
    obtain ⟨t, -, rfl⟩ := List.mem_map.1 hx
    rw [List.length_append, ih y hy]; rfl
theorem boxK_mem (tops : List Int) (k : Nat) {x : List Int} : x ∈ boxK tops k ↔ x.length = k ∧ ∀ v, v < k → 0 ≤ x.getD v 0 ∧ x.getD v 0 ≤ tops.getD v 0 := by
  induction k generalizing x with
  | zero =>
    simp only [boxK, List.mem_singleton]
    exact ⟨fun h => by subst h; exact ⟨rfl, fun v hv => by omega⟩, fun h => List.eq_nil_of_length_eq_zero h.1⟩
  | succ k ih =>
    simp only [boxK, nextR, List.take_length, List.mem_flatMap]
    constructor
    · rintro ⟨y, hy, hx⟩
      unfold expand at hx
      obtain ⟨t, ht, rfl⟩ := List.mem_map.1 hx
      have ht := List.mem_range.1 ht
      obtain ⟨h1, h2⟩ := ih.1 hy
      refine ⟨by rw [List.length_append, h1]; rfl, fun v hv => ?_⟩
      by_cases e : v = k
      · have hg : (y ++ [(t : Int)]).getD v 0 = (t : Int) := by
          rw [e, ← h1, List.getD_eq_getElem?_getD, List.getElem?_append_right (Nat.le_refl _)]; simp
        rw [hg, e]
        unfold cntT at ht
        omega
      · have hg : (y ++ [(t : Int)]).getD v 0 = y.getD v 0 := by
          rw [List.getD_eq_getElem?_getD, List.getElem?_append_left (by omega), List.getD_eq_getElem?_getD]
        rw [hg]; exact h2 v (by omega)
    · rintro ⟨h1, h2⟩
      have hk := h2 k (by omega)
      have hx : x = x.take k ++ [x.getD k 0] := by
        rw [List.getD_eq_getElem?_getD, List.getElem?_eq_getElem (by omega)]
        simp only [Option.getD_some]
        rw [List.take_append_getElem (by omega : k < x.length), List.take_of_length_le (by omega)]
      refine ⟨x.take k, ih.2 ⟨by rw [List.length_take]; omega, fun v hv => ?_⟩, ?_⟩
      · rw [List.getD_eq_getElem?_getD, List.getElem?_take_of_lt hv, ← List.getD_eq_getElem?_getD]; exact h2 v (by omega)
      · unfold expand
        refine List.mem_map.2 ⟨(x.getD k 0).toNat, List.mem_range.2 (show (x.getD k 0).toNat < cntT tops k by unfold cntT; omega), ?_⟩
        rw [Int.toNat_of_nonneg hk.1]; exact hx.symm
theorem topL_get {n : Nat} (es : List Tri) (q : Nat) {v : Nat} (hv : v < n) : (topL n es q).getD v 0 = if v = q then 0 else valK es v n - 1 := map_getD _ n 0 hv
theorem cntT_le {n q : Nat} {es : List Tri} (hE : Edges n es) (hn : n ≤ 6) {v : Nat} (hv : v < n) : cntT (topL n es q) v ≤ if v = q then 1 else 300 := by
  unfold cntT
  rw [topL_get es q hv]
  by_cases e : v = q
  · rw [if_pos e, if_pos e]; decide
  · rw [if_neg e, if_neg e]; have := valK_le hE v n; omega
theorem boxK_few {n q : Nat} {es : List Tri} (hE : Edges n es) (hn : n ≤ 6) (_hq : q < n) : ∀ k, k ≤ n → (boxK (topL n es q) k).length ≤ 300 ^ (if q < k then k - 1 else k) := by
  intro k
  induction k with
  | zero => intro _; simp [boxK]
  | succ k ih =>
    intro hk
    have h1 := ih (by omega)
    have h2 := cntT_le (q := q) hE hn (v := k) (by omega)
    rw [boxK_len]
    by_cases e : k = q
    · rw [if_pos e] at h2
      rw [if_neg (by omega)] at h1
      rw [if_pos (by omega)]
      exact Nat.le_trans (Nat.mul_le_mul h1 h2) (by simp)
    · rw [if_neg e] at h2
      refine Nat.le_trans (Nat.mul_le_mul h1 h2) ?_
      by_cases c : q < k
      · rw [if_pos c, if_pos (by omega), show k + 1 - 1 = (k - 1) + 1 by omega, Nat.pow_succ]; exact Nat.le_refl _
      · rw [if_neg c, if_neg (by omega), Nat.pow_succ]; exact Nat.le_refl _
theorem boxK_many {n q : Nat} {es : List Tri} (hE : Edges n es) (hn : n ≤ 6) (hq : q < n) {k : Nat} (hk : k ≤ n) : (boxK (topL n es q) k).length ≤ 2430000000000 := by
  refine Nat.le_trans (boxK_few hE hn hq k hk) ?_
  have : (if q < k then k - 1 else k) ≤ 5 := by split <;> omega
  exact Nat.le_trans (Nat.pow_le_pow_right (by decide) this) (by decide)
def calmsL (n q : Nat) (es : List Tri) : List (List Int) := (boxK (topL n es q) n).filter (calmB n q es)
theorem filter_take_succ {α : Type} (p : α → Bool) {l : List α} {i : Nat} {x : α} (h : l[i]? = some x) : (l.take (i + 1)).filter p = if p x then (l.take i).filter p ++ [x] else (l.take i).filter p := by
  rw [List.take_add_one, h, List.filter_append]
  cases hp : p x
  · rw [if_neg (by simp)]; simp [hp]
  · rw [if_pos rfl]; simp [hp]
end Go.Proofs.YtefggpdobjboeaaGreat
