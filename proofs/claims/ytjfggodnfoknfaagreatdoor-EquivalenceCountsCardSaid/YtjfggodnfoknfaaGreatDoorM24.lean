/- Contract of down where the quotient is exact. (printed by gen/down.py) -/
import Derived.Test.YtjfggodnfoknfaaGreatDoorM23
set_option maxRecDepth 100000
set_option maxHeartbeats 16000000
namespace Go.Proofs.YtjfggodnfoknfaaGreatDoor
open Go.RowKit
/-- signed hands its words on. -/
theorem signedS_any (m : Bool) (p : Option Addr) (n c a : Nat) (w : World) (hv : NV w (.slice p n c) a) :
    Calls Tryz.prog 136 #[.bool m, .slice p n c] w fun e w' => e = .returned (.agg #[.bool (decide (sgN m a < 0)), .slice p n c]) ∧ Below w.heap.size w w' := by
  rcases hv.parts with ⟨rfl, p', c', h⟩ | ⟨h0, ad, c', h, -, hb, hc⟩
  · cases h
    refine (signed0 m p c w).mono fun e w' h => ⟨?_, h.2⟩
    rw [h.1]
    cases m <;> rfl
  · cases h
    refine (signed1 m (some ad) c w).mono fun e w' h => ⟨?_, h.2⟩
    rw [h.1]
    cases m
    · have : ¬ ((a : Int) < 0) := by omega
      simp [sgN, this]
    · have : 0 < a := by omega
      simp [sgN, this]
theorem NV.shape {w : World} {v : Value} {a : Nat} (h : NV w v a) : ∃ p n c, v = .slice p n c ∧ (n = 0 ↔ a = 0) := by
  rcases h.parts with ⟨rfl, p, c, rfl⟩ | ⟨h0, ad, c, rfl, -⟩
  · exact ⟨p, 0, c, rfl, by simp⟩
  · exact ⟨_, 1, c, rfl, by simp [h0]⟩
theorem results_cells2 {P : Program} {fn : Func} {p q : Tmp} {ty : TypeId} (h : fn.results = #[.cell p ty, .cell q ty]) (tmps : Array Value) (w : World) (g g' : Nat) (t : TypeId) (cs cs' : Array Value) (fr : Nat × Nat) (d : TypeDesc)
    (hp : tmps.getD p undef = .pointer (some ⟨g, 0, none⟩)) (hq : tmps.getD q undef = .pointer (some ⟨g', 0, none⟩)) (hg : w.heap[g]? = some (.cells cs t fr)) (hg' : w.heap[g']? = some (.cells cs' t fr))
    (hu : P.underlying ty = some d) (hd : (match d with | .struct _ | .array _ _ => true | _ => false) = true) (hi : (P.info? ty).map (·.size) = some cs.size) (hi' : (P.info? ty).map (·.size) = some cs'.size) :
    (results fn tmps).run P w = .ok (.tuple #[.agg cs, .agg cs']) w := by
  have hp' : tmps[p]?.getD undef = .pointer (some ⟨g, 0, none⟩) := by simpa using hp
  have hq' : tmps[q]?.getD undef = .pointer (some ⟨g', 0, none⟩) := by simpa using hq
  simp [results, h, hp', hq', asAddr, run_loadVar_row w g t ty cs fr d hg hu hd hi, run_loadVar_row w g' t ty cs' fr d hg' hu hd hi']
def resB (w W : World) : Prop := W.cell? ⟨w.heap.size + 2, 0, none⟩ = some (.bool false) ∧ W.cell? ⟨w.heap.size + 2, 1, none⟩ = some (.slice none 0 0) ∧ W.frozen? ⟨w.heap.size + 2, 0, none⟩ = false ∧ W.frozen? ⟨w.heap.size + 2, 1, none⟩ = false ∧ W.cell? ⟨w.heap.size + 3, 0, none⟩ = some (.bool false) ∧ W.cell? ⟨w.heap.size + 3, 1, none⟩ = some (.slice none 0 0) ∧ W.frozen? ⟨w.heap.size + 3, 0, none⟩ = false ∧ W.frozen? ⟨w.heap.size + 3, 1, none⟩ = false
theorem down_walkTT (p q : Option Addr) (n c k d a b : Nat) (w : World) (hu : NV w (.slice p n c) a) (hv : NV w (.slice q k d) b) (hb0 : b ≠ 0) (hr0 : a % b = 0) :
    Calls Tryz.prog 199 #[.agg #[.bool true, .slice p n c], .agg #[.bool true, .slice q k d]] w fun e w' => ∃ u r, e = .returned (.tuple #[u, r]) ∧ (∃ b p n c, r = .agg #[.bool b, .slice p n c]) ∧ ZN w' u (sgN false (a / b)) ∧ Below w.heap.size w w' := by
  obtain ⟨W0, hW0⟩ : ∃ W0, W0 = (((w.alloc (.cells #[.bool true, .slice p n c] 131)).alloc (.cells #[.bool true, .slice q k d] 131)).alloc (.cells #[.bool false, .slice none 0 0] 131)).alloc (.cells #[.bool false, .slice none 0 0] 131) := ⟨_, rfl⟩
  have hbb : Below w.heap.size w W0 := by rw [hW0]; go_grown
  have hs0 : W0.heap.size = w.heap.size + 4 := by rw [hW0]; simp
  have HK : Hid (∀ W, Below (w.heap.size + 2) W0 W → W.cell? ⟨w.heap.size, 0, none⟩ = some (.bool true) ∧ W.cell? ⟨w.heap.size, 1, none⟩ = some (.slice p n c) ∧ W.cell? ⟨w.heap.size + 1, 0, none⟩ = some (.bool true) ∧ W.cell? ⟨w.heap.size + 1, 1, none⟩ = some (.slice q k d) ∧ Below (w.heap.size + 2) W0 W) := fun W hb => by
    refine ⟨(hb.cell (by simp)).trans ?_, (hb.cell (by simp)).trans ?_, (hb.cell (by simp)).trans ?_, (hb.cell (by simp)).trans ?_, hb⟩ <;>
    · rw [hW0]; go_cell
  have eb : BL W0 (w.heap.size + 2) 131 [.bool false, .slice none 0 0] ∧ BL W0 (w.heap.size + 3) 131 [.bool false, .slice none 0 0] := by
    have h1 := BL.new' ((w.alloc (.cells #[.bool true, .slice p n c] 131)).alloc (.cells #[.bool true, .slice q k d] 131)) #[.bool false, .slice none 0 0] 131
    have h2 := BL.new' (((w.alloc (.cells #[.bool true, .slice p n c] 131)).alloc (.cells #[.bool true, .slice q k d] 131)).alloc (.cells #[.bool false, .slice none 0 0] 131)) #[.bool false, .slice none 0 0] 131
    simp only [World.size_alloc] at h1 h2
    rw [hW0]; exact ⟨h1.alloc _, h2⟩
  have HBL : Hid (∀ W, Below W0.heap.size W0 W → BL W (w.heap.size + 2) 131 [.bool false, .slice none 0 0] ∧ BL W (w.heap.size + 3) 131 [.bool false, .slice none 0 0]) := fun W hb =>
    ⟨eb.1.below hb (by omega), eb.2.below hb (by omega)⟩
  have HR : Hid (∀ W, Below W0.heap.size W0 W → resB w W) := fun W hb => by
    obtain ⟨e1, e2⟩ := HBL.out W hb
    exact ⟨e1.cell 0, e1.cell 1, e1.frozen 0, e1.frozen 1, e2.cell 0, e2.cell 1, e2.frozen 0, e2.frozen 1⟩
  have HT := Lib.hid (divided_any (.slice p n c) (.slice q k d) a b W0 (hu.below hbb) (hv.below hbb) hb0)
  have HB0 := Lib.hid hbb
  have HW0 : Hid (W0 = (((w.alloc (.cells #[.bool true, .slice p n c] 131)).alloc (.cells #[.bool true, .slice q k d] 131)).alloc (.cells #[.bool false, .slice none 0 0] 131)).alloc (.cells #[.bool false, .slice none 0 0] 131)) := hW0
  have HN := Lib.hid hs0
  have HR0 := Lib.hid hr0
  clear hu hv hb0 hW0 hbb hs0 eb hr0
  go_enter Tryz.func199, Tryz.ntmps199
  go_wp2_with fail
  rw [← HW0.out]
  obtain ⟨k0, k1, k2, k3, -⟩ := HK.out W0 (Below.refl _ _)
  go_wp2_with fail
  refine HT.out.mono ?_
  rintro e w1 ⟨vq, vr, rfl, hq, hr, hb1⟩
  obtain ⟨p1, n1, c1, rfl, hn1⟩ := hq.shape
  obtain ⟨p2, n2, c2, rfl, hn2⟩ := hr.shape
  obtain rfl : n2 = 0 := hn2.2 HR0.out
  clear hn1 hn2 k0 k1 k2 k3
  have HQ := Lib.hid hq
  have HB1 := Lib.hid hb1
  obtain ⟨k0, k1, k2, k3, -⟩ := HK.out w1 (hb1.mono (by have := HN.out; omega))
  have HG1 : Hid (∀ W, Below w1.heap.size w1 W → Calls Tryz.prog 136 #[.bool false, .slice p1 n1 c1] W fun e w' => e = .returned (.agg #[.bool (decide (sgN false (a / b) < 0)), .slice p1 n1 c1]) ∧ Below W.heap.size W w') := fun W h => signedS_any _ _ _ _ _ W (hq.below h)
  have HG2 : Hid (∀ W, Below w1.heap.size w1 W → Calls Tryz.prog 136 #[.bool true, .slice p2 0 c2] W fun e w' => e = .returned (.agg #[.bool (decide (sgN true (a % b) < 0)), .slice p2 0 c2]) ∧ Below W.heap.size W w') := fun W h => signedS_any _ _ _ _ _ W (hr.below h)
  have HKs := HK
  have HRs := HR
  clear hq hr hb1
  go_wp2_with fail
  all_goals
    have HBc := Lib.hid (Below.refl w1.heap.size w1).drew
    have HSc := Lib.hid (HK.out w1.drew ((HB1.out.mono (by have := HN.out; omega)).drew))
    have HRc := Lib.hid (HR.out w1.drew HB1.out.drew)
    clear k0 k1 k2 k3
    go_region_held3 (fun W' : World => W'.cell? ⟨w.heap.size, 0, none⟩ = some (.bool true) ∧ W'.cell? ⟨w.heap.size, 1, none⟩ = some (.slice p n c) ∧ W'.cell? ⟨w.heap.size + 1, 0, none⟩ = some (.bool true) ∧ W'.cell? ⟨w.heap.size + 1, 1, none⟩ = some (.slice q k d) ∧ Below (w.heap.size + 2) W0 W')
      (first | exact HSc.out | exact HK.out _ ((HSc.out.2.2.2.2.setCell (by simp) _).setCell (by simp) _) | exact HK.out _ ((((HSc.out.2.2.2.2.setCell (by simp) _).setCell (by simp) _).setCell (by simp) _).setCell (by simp) _))
      (first
        | (go_at_call 136; (with_reducible refine (HG1.out _ HBc.out).mono ?_); rintro e w7 ⟨rfl, hb7⟩; have HBc := Lib.hid (HBc.out.trans (hb7.mono HBc.out.size)); have HSc := Lib.hid (HK.out w7 ((HB1.out.trans (HBc.out.mono HB1.out.size)).mono (by have := HN.out; omega))); obtain ⟨k0, k1, f0, f1, k2, k3, f2, f3⟩ := HR.out w7 (HB1.out.trans (HBc.out.mono HB1.out.size)); clear hb7)
        | (go_at_call 136; (with_reducible refine (HG2.out _ HBc.out).mono ?_); rintro e w7 ⟨rfl, hb7⟩; have HBc := Lib.hid (HBc.out.trans (hb7.mono HBc.out.size)); have HSc := Lib.hid (HK.out w7 ((HB1.out.trans (HBc.out.mono HB1.out.size)).mono (by have := HN.out; omega))); obtain ⟨k0, k1, f0, f1, k2, k3, f2, f3⟩ := HR.out w7 (HB1.out.trans (HBc.out.mono HB1.out.size)); clear hb7))
  all_goals
    go_wp2_with fail
    obtain ⟨e1, e2⟩ := HBL.out w7 (HB1.out.trans (HBc.out.mono HB1.out.size))
    have hbc := (HB1.out.trans (HBc.out.mono HB1.out.size)).mono (show w.heap.size ≤ W0.heap.size by have := HN.out; omega)
    first
      | (refine bodyPost_ret (results_cells2 rfl _ _ (w.heap.size + 2) (w.heap.size + 3) 131 #[.bool (decide (sgN false (a / b) < 0)), .slice p1 n1 c1] #[.bool (decide (sgN true (a % b) < 0)), .slice p2 0 c2] (0, 0) _ rfl rfl ((((e1.set 0 _).set 1 _).set_other (by simp) _).set_other (by simp) _) ((((e2.set_other (by simp) _).set_other (by simp) _).set 0 _).set 1 _) Tryz.underlying131 rfl num_size num_size) rfl ?_
         exact ⟨_, _, rfl, ⟨_, _, _, _, rfl⟩, ZN.mk (by rw [sgN_abs]; exact ((HQ.out.below HBc.out).box e1 _ _).box ((e2.set_other (by simp) _).set_other (by simp) _) _ _), HB0.out.trans (below_box (below_box hbc (show w.heap.size ≤ w.heap.size + 2 by omega) _ _) (show w.heap.size ≤ w.heap.size + 3 by omega) _ _)⟩)
      | (refine bodyPost_ret (results_cells2 rfl _ _ (w.heap.size + 2) (w.heap.size + 3) 131 #[.bool (decide (sgN false (a / b) < 0)), .slice p1 n1 c1] #[.bool (decide (sgN true (a % b) < 0)), .slice p2 0 c2] (0, 0) _ rfl rfl ((((e1.set_other (by simp) _).set_other (by simp) _).set 0 _).set 1 _) ((((e2.set 0 _).set 1 _).set_other (by simp) _).set_other (by simp) _) Tryz.underlying131 rfl num_size num_size) rfl ?_
         exact ⟨_, _, rfl, ⟨_, _, _, _, rfl⟩, ZN.mk (by rw [sgN_abs]; exact ((HQ.out.below HBc.out).box e2 _ _).box ((e1.set_other (by simp) _).set_other (by simp) _) _ _), HB0.out.trans (below_box (below_box hbc (show w.heap.size ≤ w.heap.size + 3 by omega) _ _) (show w.heap.size ≤ w.heap.size + 2 by omega) _ _)⟩)
theorem down_walkTF (p q : Option Addr) (n c k d a b : Nat) (w : World) (hu : NV w (.slice p n c) a) (hv : NV w (.slice q k d) b) (hb0 : b ≠ 0) (hr0 : a % b = 0) :
    Calls Tryz.prog 199 #[.agg #[.bool true, .slice p n c], .agg #[.bool false, .slice q k d]] w fun e w' => ∃ u r, e = .returned (.tuple #[u, r]) ∧ (∃ b p n c, r = .agg #[.bool b, .slice p n c]) ∧ ZN w' u (sgN true (a / b)) ∧ Below w.heap.size w w' := by
  obtain ⟨W0, hW0⟩ : ∃ W0, W0 = (((w.alloc (.cells #[.bool true, .slice p n c] 131)).alloc (.cells #[.bool false, .slice q k d] 131)).alloc (.cells #[.bool false, .slice none 0 0] 131)).alloc (.cells #[.bool false, .slice none 0 0] 131) := ⟨_, rfl⟩
  have hbb : Below w.heap.size w W0 := by rw [hW0]; go_grown
  have hs0 : W0.heap.size = w.heap.size + 4 := by rw [hW0]; simp
  have HK : Hid (∀ W, Below (w.heap.size + 2) W0 W → W.cell? ⟨w.heap.size, 0, none⟩ = some (.bool true) ∧ W.cell? ⟨w.heap.size, 1, none⟩ = some (.slice p n c) ∧ W.cell? ⟨w.heap.size + 1, 0, none⟩ = some (.bool false) ∧ W.cell? ⟨w.heap.size + 1, 1, none⟩ = some (.slice q k d) ∧ Below (w.heap.size + 2) W0 W) := fun W hb => by
    refine ⟨(hb.cell (by simp)).trans ?_, (hb.cell (by simp)).trans ?_, (hb.cell (by simp)).trans ?_, (hb.cell (by simp)).trans ?_, hb⟩ <;>
    · rw [hW0]; go_cell
  have eb : BL W0 (w.heap.size + 2) 131 [.bool false, .slice none 0 0] ∧ BL W0 (w.heap.size + 3) 131 [.bool false, .slice none 0 0] := by
    have h1 := BL.new' ((w.alloc (.cells #[.bool true, .slice p n c] 131)).alloc (.cells #[.bool false, .slice q k d] 131)) #[.bool false, .slice none 0 0] 131
    have h2 := BL.new' (((w.alloc (.cells #[.bool true, .slice p n c] 131)).alloc (.cells #[.bool false, .slice q k d] 131)).alloc (.cells #[.bool false, .slice none 0 0] 131)) #[.bool false, .slice none 0 0] 131
    simp only [World.size_alloc] at h1 h2
    rw [hW0]; exact ⟨h1.alloc _, h2⟩
  have HBL : Hid (∀ W, Below W0.heap.size W0 W → BL W (w.heap.size + 2) 131 [.bool false, .slice none 0 0] ∧ BL W (w.heap.size + 3) 131 [.bool false, .slice none 0 0]) := fun W hb =>
    ⟨eb.1.below hb (by omega), eb.2.below hb (by omega)⟩
  have HR : Hid (∀ W, Below W0.heap.size W0 W → resB w W) := fun W hb => by
    obtain ⟨e1, e2⟩ := HBL.out W hb
    exact ⟨e1.cell 0, e1.cell 1, e1.frozen 0, e1.frozen 1, e2.cell 0, e2.cell 1, e2.frozen 0, e2.frozen 1⟩
  have HT := Lib.hid (divided_any (.slice p n c) (.slice q k d) a b W0 (hu.below hbb) (hv.below hbb) hb0)
  have HB0 := Lib.hid hbb
  have HW0 : Hid (W0 = (((w.alloc (.cells #[.bool true, .slice p n c] 131)).alloc (.cells #[.bool false, .slice q k d] 131)).alloc (.cells #[.bool false, .slice none 0 0] 131)).alloc (.cells #[.bool false, .slice none 0 0] 131)) := hW0
  have HN := Lib.hid hs0
  have HR0 := Lib.hid hr0
  clear hu hv hb0 hW0 hbb hs0 eb hr0
  go_enter Tryz.func199, Tryz.ntmps199
  go_wp2_with fail
  rw [← HW0.out]
  obtain ⟨k0, k1, k2, k3, -⟩ := HK.out W0 (Below.refl _ _)
  go_wp2_with fail
  refine HT.out.mono ?_
  rintro e w1 ⟨vq, vr, rfl, hq, hr, hb1⟩
  obtain ⟨p1, n1, c1, rfl, hn1⟩ := hq.shape
  obtain ⟨p2, n2, c2, rfl, hn2⟩ := hr.shape
  obtain rfl : n2 = 0 := hn2.2 HR0.out
  clear hn1 hn2 k0 k1 k2 k3
  have HQ := Lib.hid hq
  have HB1 := Lib.hid hb1
  obtain ⟨k0, k1, k2, k3, -⟩ := HK.out w1 (hb1.mono (by have := HN.out; omega))
  have HG1 : Hid (∀ W, Below w1.heap.size w1 W → Calls Tryz.prog 136 #[.bool true, .slice p1 n1 c1] W fun e w' => e = .returned (.agg #[.bool (decide (sgN true (a / b) < 0)), .slice p1 n1 c1]) ∧ Below W.heap.size W w') := fun W h => signedS_any _ _ _ _ _ W (hq.below h)
  have HG2 : Hid (∀ W, Below w1.heap.size w1 W → Calls Tryz.prog 136 #[.bool false, .slice p2 0 c2] W fun e w' => e = .returned (.agg #[.bool (decide (sgN false (a % b) < 0)), .slice p2 0 c2]) ∧ Below W.heap.size W w') := fun W h => signedS_any _ _ _ _ _ W (hr.below h)
  have HKs := HK
  have HRs := HR
  clear hq hr hb1
  go_wp2_with fail
  all_goals
    have HBc := Lib.hid (Below.refl w1.heap.size w1).drew
    have HSc := Lib.hid (HK.out w1.drew ((HB1.out.mono (by have := HN.out; omega)).drew))
    have HRc := Lib.hid (HR.out w1.drew HB1.out.drew)
    clear k0 k1 k2 k3
    go_region_held3 (fun W' : World => W'.cell? ⟨w.heap.size, 0, none⟩ = some (.bool true) ∧ W'.cell? ⟨w.heap.size, 1, none⟩ = some (.slice p n c) ∧ W'.cell? ⟨w.heap.size + 1, 0, none⟩ = some (.bool false) ∧ W'.cell? ⟨w.heap.size + 1, 1, none⟩ = some (.slice q k d) ∧ Below (w.heap.size + 2) W0 W')
      (first | exact HSc.out | exact HK.out _ ((HSc.out.2.2.2.2.setCell (by simp) _).setCell (by simp) _) | exact HK.out _ ((((HSc.out.2.2.2.2.setCell (by simp) _).setCell (by simp) _).setCell (by simp) _).setCell (by simp) _))
      (first
        | (go_at_call 136; (with_reducible refine (HG1.out _ HBc.out).mono ?_); rintro e w7 ⟨rfl, hb7⟩; have HBc := Lib.hid (HBc.out.trans (hb7.mono HBc.out.size)); have HSc := Lib.hid (HK.out w7 ((HB1.out.trans (HBc.out.mono HB1.out.size)).mono (by have := HN.out; omega))); obtain ⟨k0, k1, f0, f1, k2, k3, f2, f3⟩ := HR.out w7 (HB1.out.trans (HBc.out.mono HB1.out.size)); clear hb7)
        | (go_at_call 136; (with_reducible refine (HG2.out _ HBc.out).mono ?_); rintro e w7 ⟨rfl, hb7⟩; have HBc := Lib.hid (HBc.out.trans (hb7.mono HBc.out.size)); have HSc := Lib.hid (HK.out w7 ((HB1.out.trans (HBc.out.mono HB1.out.size)).mono (by have := HN.out; omega))); obtain ⟨k0, k1, f0, f1, k2, k3, f2, f3⟩ := HR.out w7 (HB1.out.trans (HBc.out.mono HB1.out.size)); clear hb7))
  all_goals
    go_wp2_with fail
    obtain ⟨e1, e2⟩ := HBL.out w7 (HB1.out.trans (HBc.out.mono HB1.out.size))
    have hbc := (HB1.out.trans (HBc.out.mono HB1.out.size)).mono (show w.heap.size ≤ W0.heap.size by have := HN.out; omega)
    first
      | (refine bodyPost_ret (results_cells2 rfl _ _ (w.heap.size + 2) (w.heap.size + 3) 131 #[.bool (decide (sgN true (a / b) < 0)), .slice p1 n1 c1] #[.bool (decide (sgN false (a % b) < 0)), .slice p2 0 c2] (0, 0) _ rfl rfl ((((e1.set 0 _).set 1 _).set_other (by simp) _).set_other (by simp) _) ((((e2.set_other (by simp) _).set_other (by simp) _).set 0 _).set 1 _) Tryz.underlying131 rfl num_size num_size) rfl ?_
         exact ⟨_, _, rfl, ⟨_, _, _, _, rfl⟩, ZN.mk (by rw [sgN_abs]; exact ((HQ.out.below HBc.out).box e1 _ _).box ((e2.set_other (by simp) _).set_other (by simp) _) _ _), HB0.out.trans (below_box (below_box hbc (show w.heap.size ≤ w.heap.size + 2 by omega) _ _) (show w.heap.size ≤ w.heap.size + 3 by omega) _ _)⟩)
      | (refine bodyPost_ret (results_cells2 rfl _ _ (w.heap.size + 2) (w.heap.size + 3) 131 #[.bool (decide (sgN true (a / b) < 0)), .slice p1 n1 c1] #[.bool (decide (sgN false (a % b) < 0)), .slice p2 0 c2] (0, 0) _ rfl rfl ((((e1.set_other (by simp) _).set_other (by simp) _).set 0 _).set 1 _) ((((e2.set 0 _).set 1 _).set_other (by simp) _).set_other (by simp) _) Tryz.underlying131 rfl num_size num_size) rfl ?_
         exact ⟨_, _, rfl, ⟨_, _, _, _, rfl⟩, ZN.mk (by rw [sgN_abs]; exact ((HQ.out.below HBc.out).box e2 _ _).box ((e1.set_other (by simp) _).set_other (by simp) _) _ _), HB0.out.trans (below_box (below_box hbc (show w.heap.size ≤ w.heap.size + 3 by omega) _ _) (show w.heap.size ≤ w.heap.size + 2 by omega) _ _)⟩)
theorem down_walkFT (p q : Option Addr) (n c k d a b : Nat) (w : World) (hu : NV w (.slice p n c) a) (hv : NV w (.slice q k d) b) (hb0 : b ≠ 0) (hr0 : a % b = 0) :
    Calls Tryz.prog 199 #[.agg #[.bool false, .slice p n c], .agg #[.bool true, .slice q k d]] w fun e w' => ∃ u r, e = .returned (.tuple #[u, r]) ∧ (∃ b p n c, r = .agg #[.bool b, .slice p n c]) ∧ ZN w' u (sgN true (a / b)) ∧ Below w.heap.size w w' := by
  obtain ⟨W0, hW0⟩ : ∃ W0, W0 = (((w.alloc (.cells #[.bool false, .slice p n c] 131)).alloc (.cells #[.bool true, .slice q k d] 131)).alloc (.cells #[.bool false, .slice none 0 0] 131)).alloc (.cells #[.bool false, .slice none 0 0] 131) := ⟨_, rfl⟩
  have hbb : Below w.heap.size w W0 := by rw [hW0]; go_grown
  have hs0 : W0.heap.size = w.heap.size + 4 := by rw [hW0]; simp
  have HK : Hid (∀ W, Below (w.heap.size + 2) W0 W → W.cell? ⟨w.heap.size, 0, none⟩ = some (.bool false) ∧ W.cell? ⟨w.heap.size, 1, none⟩ = some (.slice p n c) ∧ W.cell? ⟨w.heap.size + 1, 0, none⟩ = some (.bool true) ∧ W.cell? ⟨w.heap.size + 1, 1, none⟩ = some (.slice q k d) ∧ Below (w.heap.size + 2) W0 W) := fun W hb => by
    refine ⟨(hb.cell (by simp)).trans ?_, (hb.cell (by simp)).trans ?_, (hb.cell (by simp)).trans ?_, (hb.cell (by simp)).trans ?_, hb⟩ <;>
    · rw [hW0]; go_cell
  have eb : BL W0 (w.heap.size + 2) 131 [.bool false, .slice none 0 0] ∧ BL W0 (w.heap.size + 3) 131 [.bool false, .slice none 0 0] := by
    have h1 := BL.new' ((w.alloc (.cells #[.bool false, .slice p n c] 131)).alloc (.cells #[.bool true, .slice q k d] 131)) #[.bool false, .slice none 0 0] 131
    have h2 := BL.new' (((w.alloc (.cells #[.bool false, .slice p n c] 131)).alloc (.cells #[.bool true, .slice q k d] 131)).alloc (.cells #[.bool false, .slice none 0 0] 131)) #[.bool false, .slice none 0 0] 131
    simp only [World.size_alloc] at h1 h2
    rw [hW0]; exact ⟨h1.alloc _, h2⟩
  have HBL : Hid (∀ W, Below W0.heap.size W0 W → BL W (w.heap.size + 2) 131 [.bool false, .slice none 0 0] ∧ BL W (w.heap.size + 3) 131 [.bool false, .slice none 0 0]) := fun W hb =>
    ⟨eb.1.below hb (by omega), eb.2.below hb (by omega)⟩
  have HR : Hid (∀ W, Below W0.heap.size W0 W → resB w W) := fun W hb => by
    obtain ⟨e1, e2⟩ := HBL.out W hb
    exact ⟨e1.cell 0, e1.cell 1, e1.frozen 0, e1.frozen 1, e2.cell 0, e2.cell 1, e2.frozen 0, e2.frozen 1⟩
  have HT := Lib.hid (divided_any (.slice p n c) (.slice q k d) a b W0 (hu.below hbb) (hv.below hbb) hb0)
  have HB0 := Lib.hid hbb
  have HW0 : Hid (W0 = (((w.alloc (.cells #[.bool false, .slice p n c] 131)).alloc (.cells #[.bool true, .slice q k d] 131)).alloc (.cells #[.bool false, .slice none 0 0] 131)).alloc (.cells #[.bool false, .slice none 0 0] 131)) := hW0
  have HN := Lib.hid hs0
  have HR0 := Lib.hid hr0
  clear hu hv hb0 hW0 hbb hs0 eb hr0
  go_enter Tryz.func199, Tryz.ntmps199
  go_wp2_with fail
  rw [← HW0.out]
  obtain ⟨k0, k1, k2, k3, -⟩ := HK.out W0 (Below.refl _ _)
  go_wp2_with fail
  refine HT.out.mono ?_
  rintro e w1 ⟨vq, vr, rfl, hq, hr, hb1⟩
  obtain ⟨p1, n1, c1, rfl, hn1⟩ := hq.shape
  obtain ⟨p2, n2, c2, rfl, hn2⟩ := hr.shape
  obtain rfl : n2 = 0 := hn2.2 HR0.out
  clear hn1 hn2 k0 k1 k2 k3
  have HQ := Lib.hid hq
  have HB1 := Lib.hid hb1
  obtain ⟨k0, k1, k2, k3, -⟩ := HK.out w1 (hb1.mono (by have := HN.out; omega))
  have HG1 : Hid (∀ W, Below w1.heap.size w1 W → Calls Tryz.prog 136 #[.bool true, .slice p1 n1 c1] W fun e w' => e = .returned (.agg #[.bool (decide (sgN true (a / b) < 0)), .slice p1 n1 c1]) ∧ Below W.heap.size W w') := fun W h => signedS_any _ _ _ _ _ W (hq.below h)
  have HG2 : Hid (∀ W, Below w1.heap.size w1 W → Calls Tryz.prog 136 #[.bool true, .slice p2 0 c2] W fun e w' => e = .returned (.agg #[.bool (decide (sgN true (a % b) < 0)), .slice p2 0 c2]) ∧ Below W.heap.size W w') := fun W h => signedS_any _ _ _ _ _ W (hr.below h)
  have HKs := HK
  have HRs := HR
  clear hq hr hb1
  go_wp2_with fail
  all_goals
    have HBc := Lib.hid (Below.refl w1.heap.size w1).drew
    have HSc := Lib.hid (HK.out w1.drew ((HB1.out.mono (by have := HN.out; omega)).drew))
    have HRc := Lib.hid (HR.out w1.drew HB1.out.drew)
    clear k0 k1 k2 k3
    go_region_held3 (fun W' : World => W'.cell? ⟨w.heap.size, 0, none⟩ = some (.bool false) ∧ W'.cell? ⟨w.heap.size, 1, none⟩ = some (.slice p n c) ∧ W'.cell? ⟨w.heap.size + 1, 0, none⟩ = some (.bool true) ∧ W'.cell? ⟨w.heap.size + 1, 1, none⟩ = some (.slice q k d) ∧ Below (w.heap.size + 2) W0 W')
      (first | exact HSc.out | exact HK.out _ ((HSc.out.2.2.2.2.setCell (by simp) _).setCell (by simp) _) | exact HK.out _ ((((HSc.out.2.2.2.2.setCell (by simp) _).setCell (by simp) _).setCell (by simp) _).setCell (by simp) _))
      (first
        | (go_at_call 136; (with_reducible refine (HG1.out _ HBc.out).mono ?_); rintro e w7 ⟨rfl, hb7⟩; have HBc := Lib.hid (HBc.out.trans (hb7.mono HBc.out.size)); have HSc := Lib.hid (HK.out w7 ((HB1.out.trans (HBc.out.mono HB1.out.size)).mono (by have := HN.out; omega))); obtain ⟨k0, k1, f0, f1, k2, k3, f2, f3⟩ := HR.out w7 (HB1.out.trans (HBc.out.mono HB1.out.size)); clear hb7)
        | (go_at_call 136; (with_reducible refine (HG2.out _ HBc.out).mono ?_); rintro e w7 ⟨rfl, hb7⟩; have HBc := Lib.hid (HBc.out.trans (hb7.mono HBc.out.size)); have HSc := Lib.hid (HK.out w7 ((HB1.out.trans (HBc.out.mono HB1.out.size)).mono (by have := HN.out; omega))); obtain ⟨k0, k1, f0, f1, k2, k3, f2, f3⟩ := HR.out w7 (HB1.out.trans (HBc.out.mono HB1.out.size)); clear hb7))
  all_goals
    go_wp2_with fail
    obtain ⟨e1, e2⟩ := HBL.out w7 (HB1.out.trans (HBc.out.mono HB1.out.size))
    have hbc := (HB1.out.trans (HBc.out.mono HB1.out.size)).mono (show w.heap.size ≤ W0.heap.size by have := HN.out; omega)
    first
      | (refine bodyPost_ret (results_cells2 rfl _ _ (w.heap.size + 2) (w.heap.size + 3) 131 #[.bool (decide (sgN true (a / b) < 0)), .slice p1 n1 c1] #[.bool (decide (sgN true (a % b) < 0)), .slice p2 0 c2] (0, 0) _ rfl rfl ((((e1.set 0 _).set 1 _).set_other (by simp) _).set_other (by simp) _) ((((e2.set_other (by simp) _).set_other (by simp) _).set 0 _).set 1 _) Tryz.underlying131 rfl num_size num_size) rfl ?_
         exact ⟨_, _, rfl, ⟨_, _, _, _, rfl⟩, ZN.mk (by rw [sgN_abs]; exact ((HQ.out.below HBc.out).box e1 _ _).box ((e2.set_other (by simp) _).set_other (by simp) _) _ _), HB0.out.trans (below_box (below_box hbc (show w.heap.size ≤ w.heap.size + 2 by omega) _ _) (show w.heap.size ≤ w.heap.size + 3 by omega) _ _)⟩)
      | (refine bodyPost_ret (results_cells2 rfl _ _ (w.heap.size + 2) (w.heap.size + 3) 131 #[.bool (decide (sgN true (a / b) < 0)), .slice p1 n1 c1] #[.bool (decide (sgN true (a % b) < 0)), .slice p2 0 c2] (0, 0) _ rfl rfl ((((e1.set_other (by simp) _).set_other (by simp) _).set 0 _).set 1 _) ((((e2.set 0 _).set 1 _).set_other (by simp) _).set_other (by simp) _) Tryz.underlying131 rfl num_size num_size) rfl ?_
         exact ⟨_, _, rfl, ⟨_, _, _, _, rfl⟩, ZN.mk (by rw [sgN_abs]; exact ((HQ.out.below HBc.out).box e2 _ _).box ((e1.set_other (by simp) _).set_other (by simp) _) _ _), HB0.out.trans (below_box (below_box hbc (show w.heap.size ≤ w.heap.size + 3 by omega) _ _) (show w.heap.size ≤ w.heap.size + 2 by omega) _ _)⟩)
theorem down_walkFF (p q : Option Addr) (n c k d a b : Nat) (w : World) (hu : NV w (.slice p n c) a) (hv : NV w (.slice q k d) b) (hb0 : b ≠ 0) (hr0 : a % b = 0) :
    Calls Tryz.prog 199 #[.agg #[.bool false, .slice p n c], .agg #[.bool false, .slice q k d]] w fun e w' => ∃ u r, e = .returned (.tuple #[u, r]) ∧ (∃ b p n c, r = .agg #[.bool b, .slice p n c]) ∧ ZN w' u (sgN false (a / b)) ∧ Below w.heap.size w w' := by
  obtain ⟨W0, hW0⟩ : ∃ W0, W0 = (((w.alloc (.cells #[.bool false, .slice p n c] 131)).alloc (.cells #[.bool false, .slice q k d] 131)).alloc (.cells #[.bool false, .slice none 0 0] 131)).alloc (.cells #[.bool false, .slice none 0 0] 131) := ⟨_, rfl⟩
  have hbb : Below w.heap.size w W0 := by rw [hW0]; go_grown
  have hs0 : W0.heap.size = w.heap.size + 4 := by rw [hW0]; simp
  have HK : Hid (∀ W, Below (w.heap.size + 2) W0 W → W.cell? ⟨w.heap.size, 0, none⟩ = some (.bool false) ∧ W.cell? ⟨w.heap.size, 1, none⟩ = some (.slice p n c) ∧ W.cell? ⟨w.heap.size + 1, 0, none⟩ = some (.bool false) ∧ W.cell? ⟨w.heap.size + 1, 1, none⟩ = some (.slice q k d) ∧ Below (w.heap.size + 2) W0 W) := fun W hb => by
    refine ⟨(hb.cell (by simp)).trans ?_, (hb.cell (by simp)).trans ?_, (hb.cell (by simp)).trans ?_, (hb.cell (by simp)).trans ?_, hb⟩ <;>
    · rw [hW0]; go_cell
  have eb : BL W0 (w.heap.size + 2) 131 [.bool false, .slice none 0 0] ∧ BL W0 (w.heap.size + 3) 131 [.bool false, .slice none 0 0] := by
    have h1 := BL.new' ((w.alloc (.cells #[.bool false, .slice p n c] 131)).alloc (.cells #[.bool false, .slice q k d] 131)) #[.bool false, .slice none 0 0] 131
    have h2 := BL.new' (((w.alloc (.cells #[.bool false, .slice p n c] 131)).alloc (.cells #[.bool false, .slice q k d] 131)).alloc (.cells #[.bool false, .slice none 0 0] 131)) #[.bool false, .slice none 0 0] 131
    simp only [World.size_alloc] at h1 h2
    rw [hW0]; exact ⟨h1.alloc _, h2⟩
  have HBL : Hid (∀ W, Below W0.heap.size W0 W → BL W (w.heap.size + 2) 131 [.bool false, .slice none 0 0] ∧ BL W (w.heap.size + 3) 131 [.bool false, .slice none 0 0]) := fun W hb =>
    ⟨eb.1.below hb (by omega), eb.2.below hb (by omega)⟩
  have HR : Hid (∀ W, Below W0.heap.size W0 W → resB w W) := fun W hb => by
    obtain ⟨e1, e2⟩ := HBL.out W hb
    exact ⟨e1.cell 0, e1.cell 1, e1.frozen 0, e1.frozen 1, e2.cell 0, e2.cell 1, e2.frozen 0, e2.frozen 1⟩
  have HT := Lib.hid (divided_any (.slice p n c) (.slice q k d) a b W0 (hu.below hbb) (hv.below hbb) hb0)
  have HB0 := Lib.hid hbb
  have HW0 : Hid (W0 = (((w.alloc (.cells #[.bool false, .slice p n c] 131)).alloc (.cells #[.bool false, .slice q k d] 131)).alloc (.cells #[.bool false, .slice none 0 0] 131)).alloc (.cells #[.bool false, .slice none 0 0] 131)) := hW0
  have HN := Lib.hid hs0
  have HR0 := Lib.hid hr0
  clear hu hv hb0 hW0 hbb hs0 eb hr0
  go_enter Tryz.func199, Tryz.ntmps199
  go_wp2_with fail
  rw [← HW0.out]
  obtain ⟨k0, k1, k2, k3, -⟩ := HK.out W0 (Below.refl _ _)
  go_wp2_with fail
  refine HT.out.mono ?_
  rintro e w1 ⟨vq, vr, rfl, hq, hr, hb1⟩
  obtain ⟨p1, n1, c1, rfl, hn1⟩ := hq.shape
  obtain ⟨p2, n2, c2, rfl, hn2⟩ := hr.shape
  obtain rfl : n2 = 0 := hn2.2 HR0.out
  clear hn1 hn2 k0 k1 k2 k3
  have HQ := Lib.hid hq
  have HB1 := Lib.hid hb1
  obtain ⟨k0, k1, k2, k3, -⟩ := HK.out w1 (hb1.mono (by have := HN.out; omega))
  have HG1 : Hid (∀ W, Below w1.heap.size w1 W → Calls Tryz.prog 136 #[.bool false, .slice p1 n1 c1] W fun e w' => e = .returned (.agg #[.bool (decide (sgN false (a / b) < 0)), .slice p1 n1 c1]) ∧ Below W.heap.size W w') := fun W h => signedS_any _ _ _ _ _ W (hq.below h)
  have HG2 : Hid (∀ W, Below w1.heap.size w1 W → Calls Tryz.prog 136 #[.bool false, .slice p2 0 c2] W fun e w' => e = .returned (.agg #[.bool (decide (sgN false (a % b) < 0)), .slice p2 0 c2]) ∧ Below W.heap.size W w') := fun W h => signedS_any _ _ _ _ _ W (hr.below h)
  have HKs := HK
  have HRs := HR
  clear hq hr hb1
  go_wp2_with fail
  all_goals
    have HBc := Lib.hid (Below.refl w1.heap.size w1).drew
    have HSc := Lib.hid (HK.out w1.drew ((HB1.out.mono (by have := HN.out; omega)).drew))
    have HRc := Lib.hid (HR.out w1.drew HB1.out.drew)
    clear k0 k1 k2 k3
    go_region_held3 (fun W' : World => W'.cell? ⟨w.heap.size, 0, none⟩ = some (.bool false) ∧ W'.cell? ⟨w.heap.size, 1, none⟩ = some (.slice p n c) ∧ W'.cell? ⟨w.heap.size + 1, 0, none⟩ = some (.bool false) ∧ W'.cell? ⟨w.heap.size + 1, 1, none⟩ = some (.slice q k d) ∧ Below (w.heap.size + 2) W0 W')
      (first | exact HSc.out | exact HK.out _ ((HSc.out.2.2.2.2.setCell (by simp) _).setCell (by simp) _) | exact HK.out _ ((((HSc.out.2.2.2.2.setCell (by simp) _).setCell (by simp) _).setCell (by simp) _).setCell (by simp) _))
      (first
        | (go_at_call 136; (with_reducible refine (HG1.out _ HBc.out).mono ?_); rintro e w7 ⟨rfl, hb7⟩; have HBc := Lib.hid (HBc.out.trans (hb7.mono HBc.out.size)); have HSc := Lib.hid (HK.out w7 ((HB1.out.trans (HBc.out.mono HB1.out.size)).mono (by have := HN.out; omega))); obtain ⟨k0, k1, f0, f1, k2, k3, f2, f3⟩ := HR.out w7 (HB1.out.trans (HBc.out.mono HB1.out.size)); clear hb7)
        | (go_at_call 136; (with_reducible refine (HG2.out _ HBc.out).mono ?_); rintro e w7 ⟨rfl, hb7⟩; have HBc := Lib.hid (HBc.out.trans (hb7.mono HBc.out.size)); have HSc := Lib.hid (HK.out w7 ((HB1.out.trans (HBc.out.mono HB1.out.size)).mono (by have := HN.out; omega))); obtain ⟨k0, k1, f0, f1, k2, k3, f2, f3⟩ := HR.out w7 (HB1.out.trans (HBc.out.mono HB1.out.size)); clear hb7))
  all_goals
    go_wp2_with fail
    obtain ⟨e1, e2⟩ := HBL.out w7 (HB1.out.trans (HBc.out.mono HB1.out.size))
    have hbc := (HB1.out.trans (HBc.out.mono HB1.out.size)).mono (show w.heap.size ≤ W0.heap.size by have := HN.out; omega)
    first
      | (refine bodyPost_ret (results_cells2 rfl _ _ (w.heap.size + 2) (w.heap.size + 3) 131 #[.bool (decide (sgN false (a / b) < 0)), .slice p1 n1 c1] #[.bool (decide (sgN false (a % b) < 0)), .slice p2 0 c2] (0, 0) _ rfl rfl ((((e1.set 0 _).set 1 _).set_other (by simp) _).set_other (by simp) _) ((((e2.set_other (by simp) _).set_other (by simp) _).set 0 _).set 1 _) Tryz.underlying131 rfl num_size num_size) rfl ?_
         exact ⟨_, _, rfl, ⟨_, _, _, _, rfl⟩, ZN.mk (by rw [sgN_abs]; exact ((HQ.out.below HBc.out).box e1 _ _).box ((e2.set_other (by simp) _).set_other (by simp) _) _ _), HB0.out.trans (below_box (below_box hbc (show w.heap.size ≤ w.heap.size + 2 by omega) _ _) (show w.heap.size ≤ w.heap.size + 3 by omega) _ _)⟩)
      | (refine bodyPost_ret (results_cells2 rfl _ _ (w.heap.size + 2) (w.heap.size + 3) 131 #[.bool (decide (sgN false (a / b) < 0)), .slice p1 n1 c1] #[.bool (decide (sgN false (a % b) < 0)), .slice p2 0 c2] (0, 0) _ rfl rfl ((((e1.set_other (by simp) _).set_other (by simp) _).set 0 _).set 1 _) ((((e2.set 0 _).set 1 _).set_other (by simp) _).set_other (by simp) _) Tryz.underlying131 rfl num_size num_size) rfl ?_
         exact ⟨_, _, rfl, ⟨_, _, _, _, rfl⟩, ZN.mk (by rw [sgN_abs]; exact ((HQ.out.below HBc.out).box e2 _ _).box ((e1.set_other (by simp) _).set_other (by simp) _) _ _), HB0.out.trans (below_box (below_box hbc (show w.heap.size ≤ w.heap.size + 3 by omega) _ _) (show w.heap.size ≤ w.heap.size + 2 by omega) _ _)⟩)
theorem sgN_div (x y z : Int) (hy : y ≠ 0) (hz : x = y * z) : sgN (decide (x < 0) != decide (y < 0)) (x.natAbs / y.natAbs) = z ∧ x.natAbs % y.natAbs = 0 := by
  have e : x.natAbs = y.natAbs * z.natAbs := by rw [hz, Int.natAbs_mul]
  have hp : 0 < y.natAbs := by omega
  rw [e, Nat.mul_div_cancel_left _ hp, Nat.mul_mod_right]
  refine ⟨?_, rfl⟩
  rcases Int.lt_trichotomy z 0 with h | h | h
  · by_cases hy2 : y < 0
    · have : 0 < x := by rw [hz]; exact Int.mul_pos_of_neg_of_neg hy2 h
      have h2 : ¬ x < 0 := by omega
      simp [sgN, h2, hy2]; omega
    · have : x < 0 := by rw [hz]; exact Int.mul_neg_of_pos_of_neg (by omega) h
      simp [sgN, this, hy2]; omega
  · subst h
    simp [sgN]
  · by_cases hy2 : y < 0
    · have : x < 0 := by rw [hz]; exact Int.mul_neg_of_neg_of_pos hy2 h
      simp [sgN, this, hy2]; omega
    · have : 0 < x := by rw [hz]; exact Int.mul_pos (by omega) h
      have h2 : ¬ x < 0 := by omega
      simp [sgN, h2, hy2]; omega
theorem down_any (vx vy : Value) (x y z : Int) (w : World) (hx : ZN w vx x) (hy : ZN w vy y) (hy0 : y ≠ 0) (hz : x = y * z) :
    Calls Tryz.prog 199 #[vx, vy] w fun e w' => ∃ u r, e = .returned (.tuple #[u, r]) ∧ (∃ b p n c, r = .agg #[.bool b, .slice p n c]) ∧ ZN w' u z ∧ Below w.heap.size w w' := by
  obtain ⟨p, n, c, rfl, hu⟩ := hx.parts
  obtain ⟨q, k, d, rfl, hv⟩ := hy.parts
  obtain ⟨h1, h2⟩ := sgN_div x y z hy0 hz
  have hb : y.natAbs ≠ 0 := by omega
  by_cases hm1 : x < 0 <;> by_cases hm2 : y < 0 <;> simp only [hm1, hm2, decide_true, decide_false, bne_self_eq_false, Bool.bne_false, Bool.bne_true, Bool.not_false] at h1 ⊢
  · have := down_walkTT p q n c k d _ _ w hu hv hb h2
    rwa [h1] at this
  · have := down_walkTF p q n c k d _ _ w hu hv hb h2
    rwa [h1] at this
  · have := down_walkFT p q n c k d _ _ w hu hv hb h2
    rwa [h1] at this
  · have := down_walkFF p q n c k d _ _ w hu hv hb h2
    rwa [h1] at this
end Go.Proofs.YtjfggodnfoknfaaGreatDoor

