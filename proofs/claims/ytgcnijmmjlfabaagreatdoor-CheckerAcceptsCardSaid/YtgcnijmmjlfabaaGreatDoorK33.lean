/- The contract of the reference's given, for each kind.
   The contract of the reference's form, for each kind.
   Contracts of the references' Tight, Calm, Greatest. -/
import Derived.Test.YtgcnijmmjlfabaaGreatDoorK32
set_option maxRecDepth 100000
set_option maxHeartbeats 16000000
namespace Go.Proofs.YtgcnijmmjlfabaaGreatDoor
open Go.RowKit Go.Shelf

theorem rGiv57_any (g lv : Value) (m k : Nat) (es : List Tri) (l : List Int) (w : World) (hk : k < 9) (hg : GV w g m es) (hl : RI w lv l) (hm1 : 1 ≤ m) (hm : m ≤ 12) (hll : l.length ≤ 100000) (hs : shortN k ≤ l.length) :
    Calls Tryz.prog 83 #[g, .int .i64 (k : Int), lv] w fun e w' => GivQ m k (kq k) (kn k) (kb k) (kf k) lv l w e w' := by
  have hU := fun (f : Nat) (W : World) (hf : f < 5) => uses_any k f hk hf W
  unfold usB at hU
  unfold shortN at hs
  obtain rfl | rfl | rfl | rfl | rfl | rfl | rfl | rfl | rfl : k = 0 ∨ k = 1 ∨ k = 2 ∨ k = 3 ∨ k = 4 ∨ k = 5 ∨ k = 6 ∨ k = 7 ∨ k = 8 := by omega
  · exact given_00b g lv m 0 es l w hg hl hm1 hm hll hU
  · exact given_00c g lv m 1 es l w hg hl hU
  · exact given_00c g lv m 2 es l w hg hl hU
  · exact given_01c g lv m 3 es l w hg hl hll hs hU
  · exact given_01c g lv m 4 es l w hg hl hll hs hU
  · exact given_10c g lv m 5 es l w hg hl hll hs hU
  · exact given_10c g lv m 6 es l w hg hl hll hs hU
  · exact given_10b g lv m 7 es l w hg hl hm1 hm hll hs hU
  · exact given_00f g lv m 8 es l w hg hl hll hU
end Go.Proofs.YtgcnijmmjlfabaaGreatDoor

namespace Go.Proofs.YtgcnijmmjlfabaaGreatDoor
open Go.RowKit Go.Shelf

theorem rForm57_any (g va vb vf : Value) (m k : Nat) (Q N : Int) (es : List Tri) (a b fs : List Int) (w : World) (hk : k < 9) (hg : GV w g m es) (ha : RI w va a) (hbv : RI w vb b) (hf : RI w vf fs) (hab : Bd 1048576 a) (hbb : Bd 1048576 b) (hfb : Bd 1048576 fs)
    (hA : kf k = false → a.length = m) (hA' : kf k = true → a = []) (hB : kb k = true → b.length = m) (hB' : kb k = false → b = []) (hF' : kf k = false → fs = []) (hQ' : kq k = false → Q = 0) (hN' : kn k = false → N = 0) (hm1 : 1 ≤ m) (hm : m ≤ 12) :
    Calls Tryz.prog 84 #[g, .agg #[.int .i64 (k : Int), .int .i64 Q, .int .i64 N, va, vb, vf]] w fun e w' => e = .returned (.int .i64 (rightE m (kq k) (kn k) (kl k) Q N fs)) ∧ Below w.heap.size w w' := by
  have hU := fun (f : Nat) (W : World) (hf : f < 5) => uses_any k f hk hf W
  unfold usB at hU
  obtain rfl | rfl | rfl | rfl | rfl | rfl | rfl | rfl | rfl : k = 0 ∨ k = 1 ∨ k = 2 ∨ k = 3 ∨ k = 4 ∨ k = 5 ∨ k = 6 ∨ k = 7 ∨ k = 8 := by omega
  · obtain rfl := hQ' rfl
    obtain rfl := hN' rfl
    obtain rfl := hF' rfl
    obtain ⟨Af, cf, rfl, -⟩ := hf.open_
    exact form_00b g va vb Af cf m 0 es a b w hg ha (hA rfl) hab hbv (hB rfl) hbb (by omega) hm1 hm hU
  · obtain rfl := hQ' rfl
    obtain rfl := hN' rfl
    obtain rfl := hF' rfl
    obtain rfl := hB' rfl
    obtain ⟨Af, cf, rfl, -⟩ := hf.open_
    obtain ⟨Ab, cb, rfl, -⟩ := hbv.open_
    exact form_00c g va Ab cb Af cf m 1 es a w hg ha (hA rfl) hab (by omega) hm1 hm hU
  · obtain rfl := hQ' rfl
    obtain rfl := hN' rfl
    obtain rfl := hF' rfl
    obtain rfl := hB' rfl
    obtain ⟨Af, cf, rfl, -⟩ := hf.open_
    obtain ⟨Ab, cb, rfl, -⟩ := hbv.open_
    exact form_00c g va Ab cb Af cf m 2 es a w hg ha (hA rfl) hab (by omega) hm1 hm hU
  · obtain rfl := hQ' rfl
    obtain rfl := hF' rfl
    obtain rfl := hB' rfl
    obtain ⟨Af, cf, rfl, -⟩ := hf.open_
    obtain ⟨Ab, cb, rfl, -⟩ := hbv.open_
    exact form_01c3 g va Ab cb Af cf m 3 N es a w hg ha (hA rfl) hab rfl hm1 hm hU
  · obtain rfl := hQ' rfl
    obtain rfl := hF' rfl
    obtain rfl := hB' rfl
    obtain ⟨Af, cf, rfl, -⟩ := hf.open_
    obtain ⟨Ab, cb, rfl, -⟩ := hbv.open_
    by_cases hN : N < 0
    · exact form_01c4a g va Ab cb Af cf m 4 N es a w hg ha (hA rfl) hab rfl hm1 hm hN hU
    · exact form_01c4b g va Ab cb Af cf m 4 N es a w hg ha (hA rfl) hab rfl hm1 hm hN hU
  · obtain rfl := hN' rfl
    obtain rfl := hF' rfl
    obtain rfl := hB' rfl
    obtain ⟨Af, cf, rfl, -⟩ := hf.open_
    obtain ⟨Ab, cb, rfl, -⟩ := hbv.open_
    exact form_10c g va Ab cb Af cf m 5 Q es a w hg ha (hA rfl) hab (by omega) hm1 hm hU
  · obtain rfl := hN' rfl
    obtain rfl := hF' rfl
    obtain rfl := hB' rfl
    obtain ⟨Af, cf, rfl, -⟩ := hf.open_
    obtain ⟨Ab, cb, rfl, -⟩ := hbv.open_
    exact form_10c g va Ab cb Af cf m 6 Q es a w hg ha (hA rfl) hab (by omega) hm1 hm hU
  · obtain rfl := hN' rfl
    obtain rfl := hF' rfl
    obtain ⟨Af, cf, rfl, -⟩ := hf.open_
    exact form_10b g va vb Af cf m 7 Q es a b w hg ha (hA rfl) hab hbv (hB rfl) hbb (by omega) hm1 hm hU
  · obtain rfl := hQ' rfl
    obtain rfl := hN' rfl
    obtain rfl := hA' rfl
    obtain rfl := hB' rfl
    obtain ⟨Aa, ca, rfl, -⟩ := ha.open_
    obtain ⟨Ab, cb, rfl, -⟩ := hbv.open_
    exact form_00f g vf Aa ca Ab cb m 8 es fs w hg hf hfb (by omega) hm hU
end Go.Proofs.YtgcnijmmjlfabaaGreatDoor

namespace Go.Proofs.YtgcnijmmjlfabaaGreatDoor
open Go.RowKit Go.Shelf

/-- The greatest stable configuration. -/
def topL (n : Nat) (es : List Tri) (q : Nat) : List Int := (List.range n).map fun v => if v = q then 0 else valK es v n - 1
theorem rGreat_any (g : Value) (n q : Nat) (es : List Tri) (w : World) (hg : GV w g n es) (hE : Edges n es) (hn : n ≤ 6) :
    Calls Tryz.prog 94 #[g, .int .i64 (q : Int)] w fun e w' => ∃ v, e = .returned v ∧ OI w' w.heap.size v (topL n es q) ∧ Below w.heap.size w w' := by
  obtain ⟨A, c, rfl, -⟩ := hg.open_
  obtain ⟨W0, hW0⟩ : ∃ W0, W0 = w.alloc (.cells #[.int .i64 (n:Int), .slice A es.length c] 24) := ⟨_, rfl⟩
  have hb0 : Below w.heap.size w W0 := by rw [hW0]; exact below_alloc w _
  have hx0 : BL W0 w.heap.size 24 [.int .i64 (n:Int), .slice A es.length c] := by rw [hW0]; exact BL.new' w _ _
  have c0 := hx0.cell 0
  have c1 := hx0.cell 1
  have HX0 := Lib.hid hx0
  have HG0 := Lib.hid (hg.below hb0)
  have HB0 := Lib.hid hb0
  have HW0 := Lib.hid hW0
  rw [hW0] at c0 c1
  clear hg hx0 hW0
  have hmk := run_make_row' (P := Tryz.prog) 42 3 (.int .i64 0) 8 Tryz.underlying42 int_info rfl .i64 .i64 n (by omega) (by omega)
  have hz0 : W0.heap.size = w.heap.size + 1 := by rw [HW0.out]; simp
  have HO0 := own_zeros W0 n (by omega)
  have HB1 := Lib.hid (below_alloc W0 (.cells (madeCells #[Value.int .i64 0] n) 3))
  obtain ⟨W1, hW1⟩ : ∃ W1, W1 = W0.alloc (.cells (madeCells #[Value.int .i64 0] n) 3) := ⟨_, rfl⟩
  rw [← hW1, hz0] at HO0
  rw [← hW1] at HB1
  have HO0 := Lib.hid HO0
  have HW1 := Lib.hid hW1
  have HZ := Lib.hid hz0
  have HE := Lib.hid hE
  clear hE hb0 hz0 hW1
  go_enter Tryz.func94, Tryz.ntmps94
  go_wp2_with fail
  rw [← HW0.out]
  go_wp2_with fail
  rw [← HW1.out]
  clear c0 c1 hmk
  go_loopw [6] (fun i wr => ∃ (k : Nat) (os : List Int), k ≤ n ∧ i = .int .i64 (k : Int) ∧ Hid (os.length = n) ∧ Hid (∀ j, j < n → os.getD j 0 = if j < k ∧ j ≠ q then valK es j n - 1 else 0) ∧
    Hid (OI wr (w.heap.size + 1) (.slice (some ⟨w.heap.size + 1, 0, none⟩) n n) os) ∧ Hid (Below W0.heap.size W0 wr)) (fun i _ => n - (intOf i).toNat)
  case atStart => exact ⟨0, List.replicate n 0, Nat.zero_le _, rfl, by simp [Hid], (fun j hj => by rw [if_neg (by omega)]; simp [List.getD_eq_getElem?_getD, hj]), HO0.out, HB1.out⟩
  case round =>
    obtain ⟨k, os, hk, rfl, ho1, ho2, hown, hbel⟩ := hrel
    have d0 := (HX0.out.bel hbel.out).cell 0
    have d1 := (HX0.out.bel hbel.out).cell 1
    by_cases hlt : k < n
    · by_cases hkq : k = q
      · have t1 : ((k : Int) != (q : Int)) = false := by simp; omega
        have HG2 : Hid (∀ j, j < n → os.getD j 0 = if j < k + 1 ∧ j ≠ q then valK es j n - 1 else 0) := fun j hj => by
          rw [ho2.out j hj]
          by_cases a : j < k ∧ j ≠ q
          · rw [if_pos a, if_pos (by omega)]
          · rw [if_neg a, if_neg (by omega)]
        clear hkq
        go_wp2
        go_roundw
        case rel => exact ⟨k + 1, os, by omega, by go_num, ho1.out, HG2.out, hown.out, hbel.out⟩
        case measure => simp [intOf]; omega
      · have t1 : ((k : Int) != (q : Int)) = true := by simp; omega
        have HV := Lib.hid (rVal_any _ n k es wr (HG0.out.below hbel.out) HE.out (by omega))
        have hvb := valK_le HE.out k n
        have HG2 : Hid (∀ j, j < n → (os.set k (valK es k n - 1)).getD j 0 = if j < k + 1 ∧ j ≠ q then valK es j n - 1 else 0) := fun j hj => by
          rw [List.getD_eq_getElem?_getD, List.getElem?_set]
          by_cases e : k = j
          · subst e
            rw [if_pos rfl, if_pos (by rw [ho1.out]; exact hlt), if_pos ⟨by omega, hkq⟩]; rfl
          · rw [if_neg e, ← List.getD_eq_getElem?_getD, ho2.out j hj]
            by_cases a : j < k ∧ j ≠ q
            · rw [if_pos a, if_pos (by omega)]
            · rw [if_neg a, if_neg (by omega)]
        have HO1 : Hid ((os.set k (valK es k n - 1)).length = n) := by show _ = _; rw [List.length_set]; exact ho1.out
        have HN : Hid (∀ w1, Below wr.heap.size wr w1 → w1.frozen? ⟨w.heap.size + 1, k, none⟩ = false ∧ (∃ z, w1.cell? ⟨w.heap.size + 1, k, none⟩ = some (.int .i64 z)) ∧
            OI (w1.setCell ⟨w.heap.size + 1, k, none⟩ (.int .i64 (valK es k n - 1))) (w.heap.size + 1) (.slice (some ⟨w.heap.size + 1, 0, none⟩) n n) (os.set k (valK es k n - 1)) ∧
            Below W0.heap.size W0 (w1.setCell ⟨w.heap.size + 1, k, none⟩ (.int .i64 (valK es k n - 1)))) := fun w1 h => by
          obtain ⟨-, -, q0, q1, q2⟩ := OI.at' (hown.out.below h) (k := k) (by rw [ho1.out]; exact hlt)
          exact ⟨q1, ⟨_, q0⟩, (q2 _).1, (hbel.out.trans (h.mono hbel.out.size)).setCell (p := ⟨w.heap.size + 1, k, none⟩) (by simp; have := HZ.out; omega) _⟩
        clear hkq hown ho1 ho2
        generalize valK es k n = x at *
        go_wp2_with fail
        refine HV.out.mono ?_
        rintro e w1 ⟨rfl, hb1⟩
        have HNw := Lib.hid (HN.out w1 hb1)
        obtain ⟨z, hzc⟩ := HNw.out.2.1
        have f1 := HNw.out.1
        clear hb1 d0 d1
        go_wp2
        go_roundw
        case rel => exact ⟨k + 1, _, by omega, by go_num, HO1.out, HG2.out, HNw.out.2.2.1, HNw.out.2.2.2⟩
        case measure => simp [intOf]; omega
    · obtain rfl : k = n := by omega
      have e : os = topL k es q := by
        refine List.ext_getElem? fun j => ?_
        by_cases hj : j < k
        · have h := ho2.out j hj
          have l1 : j < os.length := by rw [ho1.out]; exact hj
          rw [List.getD_eq_getElem?_getD, List.getElem?_eq_getElem l1] at h
          simp only [Option.getD_some] at h
          rw [List.getElem?_eq_getElem l1, h]
          unfold topL
          rw [List.getElem?_map, List.getElem?_range hj]
          simp only [Option.map_some]
          by_cases a : j = q
          · rw [if_pos a, if_neg (by omega)]
          · rw [if_neg a, if_pos ⟨hj, a⟩]
        · rw [List.getElem?_eq_none (by rw [ho1.out]; omega), List.getElem?_eq_none (by simp [topL]; omega)]
      subst e
      go_wp2
      go_ret
      exact ⟨_, rfl, OV.mono hown.out (by omega), HB0.out.trans (hbel.out.mono HB0.out.size)⟩
end Go.Proofs.YtgcnijmmjlfabaaGreatDoor

