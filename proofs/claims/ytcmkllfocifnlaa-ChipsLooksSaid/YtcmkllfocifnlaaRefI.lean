/- Contract of the reference of layer 17: Parts. -/
import Derived.Test.YtcmkllfocifnlaaRefE
import Derived.Deep.DeepCutAuto
import Derived.Deep.RegionWith
namespace Go.Proofs.Ytcmkllfocifnlaa
open Go.RowKit Go.Shelf

def PartsCut (n : Nat) (w : World) (a b : Value) (wx : World) : Prop := ∃ g1 g2 : Nat, a = .slice (some ⟨g1, 0, none⟩) n n ∧ b = .slice (some ⟨g2, 0, none⟩) n n ∧ g1 ≠ g2 ∧ w.heap.size ≤ g1 ∧ w.heap.size ≤ g2 ∧
  Hid (OI wx w.heap.size (.slice (some ⟨g1, 0, none⟩) n n) (List.replicate n 0)) ∧ Hid (OI wx w.heap.size (.slice (some ⟨g2, 0, none⟩) n n) (List.replicate n 0)) ∧ Hid (Below w.heap.size w wx)
def PartsRow (xs : List Int) (w : World) (g1 g2 : Nat) (i : Value) (wr : World) : Prop := ∃ (k : Nat) (ps qs : List Int), k ≤ xs.length ∧ i = .int .i64 k ∧ Hid (ps.length = xs.length) ∧ Hid (qs.length = xs.length) ∧
  Hid (ps.take k = (xs.map (fun x => max x 0)).take k) ∧ Hid (qs.take k = (xs.map (fun x => max (-x) 0)).take k) ∧
  Hid (OI wr w.heap.size (.slice (some ⟨g1, 0, none⟩) xs.length xs.length) ps) ∧ Hid (OI wr w.heap.size (.slice (some ⟨g2, 0, none⟩) xs.length xs.length) qs) ∧ Hid (Below w.heap.size w wr)
theorem OI.other {w w' : World} {B g1 g2 n c : Nat} {zs : List Int} (h : OI w B (.slice (some ⟨g1, 0, none⟩) n c) zs) (hg : w.grownBy w' (some g2)) (hne : g1 ≠ g2) : OI w' B (.slice (some ⟨g1, 0, none⟩) n c) zs :=
  ⟨h.1.kept hg (.inr (by simp only [Value.ownBlock]; intro e; injection e with e; exact hne e)), h.2⟩

set_option maxRecDepth 100000 in
set_option maxHeartbeats 2000000 in
theorem rParts_any (va : Value) (xs : List Int) (w : World) (ha : RI w va xs) :
    Calls Try.prog 38 #[va] w fun e w' => ∃ v u, e = .returned (.tuple #[v, u, .int .i64 (partsL xs).2]) ∧ OI w' w.heap.size v (partsL xs).1.1 ∧ OI w' w.heap.size u (partsL xs).1.2 ∧ Below w.heap.size w w' := by
  have h1 := Lib.hid (Own_any va xs w ha)
  obtain ⟨i0, hi, hz0, hz1, hz2⟩ := info_parts int_info
  obtain ⟨A, c, rfl, hlc, hc, hcell⟩ := ha.open_
  have HA := Lib.hid hcell
  clear hcell ha
  by_cases h0 : checkE xs xs.length = 0
  · obtain ⟨l1, l2, l3⟩ := checkE_zero h0
    have E : Hid (partsL xs = ((xs.map (fun x => max x 0), xs.map (fun x => max (-x) 0)), 0)) := by show _ = _; simp [partsL, h0]
    have L3 := Lib.hid l3
    rw [h0] at h1
    rw [E.out]
    clear h0 l3
    go_enter Try.func38, Try.ntmps38
    go_upto_region 4 with (go_at_call 41; refine h1.out.mono ?_; rintro e w' ⟨rfl, rfl⟩)
    go_cut [6, 7] (fun a b wx => PartsCut xs.length w a b wx)
    case first =>
      obtain ⟨w1, hr1, ho1, hg1⟩ := run_make_full (P := Try.prog) w.drew w.heap.size 23 3 i0 _ 1 Try.underlying23 hi hz0 hz1 .i64 .i64 xs.length (by rw [hz2]; omega) (by unfold maxLen; omega) (by simp)
      have hs1 : w.heap.size ≤ w1.heap.size := by have := hg1.size; simpa using this
      obtain ⟨w2, hr2, ho2, hg2⟩ := run_make_full (P := Try.prog) w1 w.heap.size 23 3 i0 _ 1 Try.underlying23 hi hz0 hz1 .i64 .i64 xs.length (by rw [hz2]; omega) (by unfold maxLen; omega) hs1
      have hcl : ∀ (a b : Value), (a = .slice (some ⟨w.heap.size, 0, none⟩) xs.length xs.length ∧ b = .slice (some ⟨w1.heap.size, 0, none⟩) xs.length xs.length) ∨ (b = .slice (some ⟨w.heap.size, 0, none⟩) xs.length xs.length ∧ a = .slice (some ⟨w1.heap.size, 0, none⟩) xs.length xs.length) → PartsCut xs.length w a b w2 := by
        have A1 := own_zeros ho1 (by omega)
        have hlt : w.heap.size < w1.heap.size := by
          obtain ⟨g, cap, e, _, hl⟩ := OV.shape A1 (by simp; omega)
          simp only [Value.slice.injEq, Option.some.injEq, Addr.mk.injEq, and_true] at e
          obtain ⟨rfl, -⟩ := e
          exact hl
        have b1 : Below w.heap.size w w1 := below_grown hg1 (Below.refl _ _).drew
        have A2 : OI w2 w.heap.size (.slice (some ⟨w.heap.size, 0, none⟩) xs.length xs.length) (List.replicate xs.length 0) := A1.below (below_grown hg2 (Below.refl _ _))
        have B2 := own_zeros ho2 (by omega)
        have b2 : Below w.heap.size w w2 := below_grown hg2 b1
        rintro a b (⟨rfl, rfl⟩ | ⟨rfl, rfl⟩)
        · exact ⟨_, _, rfl, rfl, by omega, Nat.le_refl _, hs1, A2, B2, b2⟩
        · exact ⟨_, _, rfl, rfl, by omega, hs1, Nat.le_refl _, B2, A2, b2⟩
      have HC := Lib.hid hcl
      clear ho1 ho2 hg1 hg2 hs1 hcl
      go_region
      all_goals (go_wp2_with fail; go_meet; first | exact HC.out _ _ (.inl ⟨rfl, rfl⟩) | exact HC.out _ _ (.inr ⟨rfl, rfl⟩))
    case rest =>
      obtain ⟨g1, g2, rfl, rfl, hne, hg1, hg2, hA0, hB0, hbel0⟩ := hcut
      go_wp2_with fail
      go_loopw [8] (fun i wr => PartsRow xs w g1 g2 i wr) (fun i _ => xs.length - (intOf i).toNat)
      case atStart => exact ⟨0, _, _, Nat.zero_le _, rfl, by simp [Hid], by simp [Hid], by simp [Hid], by simp [Hid], hA0, hB0, hbel0⟩
      case round =>
        clear hA0 hB0 hbel0
        obtain ⟨k, ps, qs, hk, rfl, hp1, hq1, hp2, hq2, hA, hB, hbel⟩ := hrel
        by_cases hlt : k < xs.length
        · obtain ⟨ad, z, rfl, hadb, hz, hcl⟩ := HA.out k hlt
          have hc1 : wr.cell? (ad.add k) = some (.int .i64 z) := (hbel.out.cell (by rw [block_of_add]; exact hadb)).trans hcl
          have hzb := inB_at L3.out hz.out
          obtain ⟨-, -, hc3, hf3, hst3⟩ := OI.at' hA.out (k := k) (by have := hp1.out; omega)
          obtain ⟨-, -, hc4, hf4, -⟩ := OI.at' hB.out (k := k) (by have := hq1.out; omega)
          have hz1 : Hid ((xs.map (fun x => max x 0))[k]? = some (max z 0)) := by show _ = _; rw [List.getElem?_map, hz.out]; rfl
          have hz2' : Hid ((xs.map (fun x => max (-x) 0))[k]? = some (max (-z) 0)) := by show _ = _; rw [List.getElem?_map, hz.out]; rfl
          have hfin : ∀ x y : Int, x = max z 0 → y = max (-z) 0 → PartsRow xs w g1 g2 (.int .i64 ((k : Int) + 1)) ((wr.setCell ⟨g1, k, none⟩ (.int .i64 x)).setCell ⟨g2, k, none⟩ (.int .i64 y)).drew := by
            intro x y hx hy
            have hB' := OI.other hB.out (hst3 x).2 (fun e => hne e.symm)
            obtain ⟨-, -, -, -, hst5⟩ := OI.at' hB' (k := k) (by have := hq1.out; omega)
            refine ⟨k + 1, ps.set k x, qs.set k y, by omega, by congr 1, by show _ = _; rw [List.length_set]; exact hp1.out, by show _ = _; rw [List.length_set]; exact hq1.out,
              take_set_succ ps _ k _ (by have := hp1.out; omega) (by rw [hx]; exact hz1.out) hp2.out, take_set_succ qs _ k _ (by have := hq1.out; omega) (by rw [hy]; exact hz2'.out) hq2.out,
              show OI _ _ _ _ from OI.other (w' := (wr.setCell ⟨g1, k, none⟩ (.int .i64 x)).setCell ⟨g2, k, none⟩ (.int .i64 y)) (hst3 x).1 (hst5 y).2 hne, (hst5 y).1, ((hbel.out.setCell (p := ⟨g1, k, none⟩) hg1 _).setCell (p := ⟨g2, k, none⟩) hg2 _).drew⟩
          have HF := Lib.hid hfin
          have HX : Hid (∀ x : Int, (wr.setCell ⟨g1, k, none⟩ (.int .i64 x)).cell? (ad.add k) = some (.int .i64 z)) := fun x => by
            have b := (Below.refl wr.heap.size wr)
            have hlo : ad.block < w.heap.size := hadb
            have hb' : Below w.heap.size wr (wr.setCell ⟨g1, k, none⟩ (.int .i64 x)) := Below.setCell (p := ⟨g1, k, none⟩) ⟨rfl, rfl, rfl, Nat.le_refl _, fun _ _ => rfl⟩ hg1 _
            exact (hb'.cell (by rw [block_of_add]; exact hadb)).trans hc1
          have HY : Hid (∀ x : Int, (wr.setCell ⟨g1, k, none⟩ (.int .i64 x)).cell? ⟨g2, k, none⟩ = some (.int .i64 (qs.getD k 0)) ∧ (wr.setCell ⟨g1, k, none⟩ (.int .i64 x)).frozen? ⟨g2, k, none⟩ = false) := fun x => by
            obtain ⟨-, -, q1, q2, -⟩ := OI.at' (OI.other hB.out (hst3 x).2 (fun e => hne e.symm)) (k := k) (by have := hq1.out; omega)
            exact ⟨q1, q2⟩
          have hw1 : IntKind.i64.wrap (-z) = -z := by simp (disch := omega) only [IntWalk.i64_in]
          have hki : (k : Int) < (xs.length : Int) := by omega
          clear hst3 hfin HA hcl hp1 hp2 hq1 hq2 hA hB
          by_cases c1 : z < 0
          · have c2 : ¬ -z < 0 := by omega
            have hcx : (wr.setCell ⟨g1, k, none⟩ (.int .i64 (0))).cell? (ad.add k) = some (.int .i64 z) := HX.out (0)
            have hcf : (wr.setCell ⟨g1, k, none⟩ (.int .i64 (0))).frozen? ⟨g2, k, none⟩ = false := (HY.out (0)).2
            have hcg := (HY.out (0)).1
            go_wp2_with fail
            go_region
            all_goals go_wp2_with fail
            all_goals go_roundw
            all_goals first | exact HF.out (0) (-z) (by omega) (by omega) | (simp [intOf]; omega)
          · by_cases c2 : -z < 0
            · have hcx : (wr.setCell ⟨g1, k, none⟩ (.int .i64 (z))).cell? (ad.add k) = some (.int .i64 z) := HX.out (z)
              have hcf : (wr.setCell ⟨g1, k, none⟩ (.int .i64 (z))).frozen? ⟨g2, k, none⟩ = false := (HY.out (z)).2
              have hcg := (HY.out (z)).1
              go_wp2_with fail
              go_region
              all_goals go_wp2_with fail
              all_goals go_roundw
              all_goals first | exact HF.out (z) (0) (by omega) (by omega) | (simp [intOf]; omega)
            · have hcx : (wr.setCell ⟨g1, k, none⟩ (.int .i64 (z))).cell? (ad.add k) = some (.int .i64 z) := HX.out (z)
              have hcf : (wr.setCell ⟨g1, k, none⟩ (.int .i64 (z))).frozen? ⟨g2, k, none⟩ = false := (HY.out (z)).2
              have hcg := (HY.out (z)).1
              go_wp2_with fail
              go_region
              all_goals go_wp2_with fail
              all_goals go_roundw
              all_goals first | exact HF.out (z) (-z) (by omega) (by omega) | (simp [intOf]; omega)
        · go_wp2
          have h2 := hp2.out
          have h3 := hq2.out
          rw [List.take_of_length_le (by have := hp1.out; omega), List.take_of_length_le (by rw [List.length_map]; omega)] at h2
          rw [List.take_of_length_le (by have := hq1.out; omega), List.take_of_length_le (by rw [List.length_map]; omega)] at h3
          go_ret3
          exact ⟨_, _, rfl, by rw [← h2]; exact hA.out, by rw [← h3]; exact hB.out, hbel.out⟩
  · have h0' : (checkE xs xs.length != 0) = true := by simp [h0]
    have E : Hid (partsL xs = (([], []), checkE xs xs.length)) := by show _ = _; simp [partsL, h0]
    rw [E.out]
    clear h0
    go_enter Try.func38, Try.ntmps38
    go_wp2_with (go_at_call 41; refine h1.out.mono ?_; rintro e w' ⟨rfl, rfl⟩)
    go_ret3
    exact ⟨.slice none 0 0, .slice none 0 0, rfl, OI.nil_ _ _, OI.nil_ _ _, Below.refl _ _⟩
end Go.Proofs.Ytcmkllfocifnlaa
