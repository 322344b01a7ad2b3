/- Contract of the checker's covers. -/
import Derived.Test.YtgcnijmmjlfabaaGreatDoorK14
import Derived.Test.YtgcnijmmjlfabaaGreatDoorK00
set_option maxRecDepth 100000
set_option maxHeartbeats 16000000
namespace Go.Proofs.YtgcnijmmjlfabaaGreatDoor
open Go.RowKit Go.Shelf
attribute [local go_sem] Oper.semAt_some

/-- How many effective divisors of a degree there are on k + 1 vertices, as the code reckons it. -/
def cntN (deg : Nat) : Nat → Nat
  | 0 => 1
  | k + 1 => cntN deg k * (deg + (k + 1)) / (k + 1)
/-- How many divisors the closure fill yields. -/
def chF : Nat → Nat → Nat
  | 0, _ => 1
  | m + 1, left => ((List.range (left + 1)).map fun k => chF m (left - k)).sum
theorem fillF_length : ∀ (m v left : Nat) (cs : List Int), (fillF m v left cs).length = chF m left := by
  intro m
  induction m with
  | zero => intro v left cs; rfl
  | succ m ih =>
    intro v left cs
    unfold fillF chF
    rw [List.length_flatMap]
    congr 1
    refine List.map_congr_left fun k _ => ih _ _ _
theorem chF_cnt : ∀ m, m < 6 → ∀ l, l < 13 → chF m l = cntN l m := by decide
theorem cnt_le : ∀ m, m < 6 → ∀ l, l < 13 → cntN l m ≤ 6188 := by decide
theorem dvsL_length {n deg : Nat} (h1 : 1 ≤ n) (hn : n ≤ 6) (hd : deg ≤ 12) : (dvsL n deg).length = cntN deg (n - 1) := by
  unfold dvsL
  rw [fillF_length, chF_cnt _ (by omega) _ (by omega)]
/-- Whether the j-th script pays the debts of chips without d. -/
def coverAt (n : Nat) (es : List Tri) (a pf : List Int) (j : Nat) (d : List Int) : Bool := effB (appLk n es (plusL a d (-1)) ((pf.drop (j * n)).take n))
/-- What the checker answers to scripts for all effective divisors of a degree. -/
def coversE (n : Nat) (es : List Tri) (deg : Nat) (a pf : List Int) : Int :=
  if (pf.length : Int) ≠ ((cntN deg (n - 1) : Nat) : Int) * n then 8
  else if ((List.range (dvsL n deg).length).all fun j => coverAt n es a pf j ((dvsL n deg).getD j [])) = true then 0 else 16
theorem results_cell1 {P : Program} {fn : Func} {p : Tmp} {t1 : TypeId} (h : fn.results = #[.cell p t1]) (tmps : Array Value) (w : World) (d1 : TypeDesc) (b1 : Nat) (v1 : Value)
    (hp : tmps.getD p undef = .pointer (some ⟨b1, 0, none⟩))
    (hu1 : P.underlying t1 = some d1) (hd1 : (match d1 with | .struct _ | .array _ _ => true | _ => false) = false)
    (h1 : w.cell? ⟨b1, 0, none⟩ = some v1) :
    (results fn tmps).run P w = .ok v1 w := by
  have hp' : tmps[p]?.getD undef = .pointer (some ⟨b1, 0, none⟩) := by simpa using hp
  simp [results, h, hp', asAddr, run_loadVar_cell1 w t1 _ v1 d1 hu1 hd1 h1]
theorem Bd_set {S : Int} {l : List Int} (h : Bd S l) {v : Nat} {x : Int} (hx : -S ≤ x ∧ x ≤ S) : Bd S (l.set v x) := fun u => by
  by_cases hv : v < l.length
  · rw [getD_set' hv]
    split
    · exact hx
    · exact h u
  · rw [List.set_eq_of_length_le (by omega)]; exact h u
theorem fillF_bd : ∀ (m v left : Nat) (cs : List Int), left ≤ 12 → Bd 12 cs → ∀ d ∈ fillF m v left cs, Bd 12 d := by
  intro m
  induction m with
  | zero =>
    intro v left cs hl hc d hd
    unfold fillF at hd
    rw [List.mem_singleton] at hd
    rw [hd]
    exact Bd_set hc (by omega)
  | succ m ih =>
    intro v left cs hl hc d hd
    unfold fillF at hd
    obtain ⟨k, hk, hd⟩ := List.mem_flatMap.1 hd
    rw [List.mem_range] at hk
    exact ih _ _ _ (by omega) (Bd_set hc (by omega)) d hd
theorem dvsL_bd {n deg : Nat} (hd : deg ≤ 12) {d : List Int} (h : d ∈ dvsL n deg) : Bd 12 d :=
  fillF_bd _ _ _ _ hd (fun v => by rw [List.getD_eq_getElem?_getD, List.getElem?_replicate]; split <;> simp) d h
/-- What holds while the checker's covers goes through the divisors. -/
def CvI (w : World) (b n deg : Nat) (q : Int) (va vb vf vp : Value) (es : List Tri) (a pf : List Int) (pre : List (Value × List Int)) (W : World) : Prop :=
  BL W w.heap.size 53 [.pointer (some ⟨b, 0, none⟩)] ∧ BL W (w.heap.size + 1) 87 [.int .i64 q, .int .i64 (deg : Int), va, vb, vf, vp] ∧ BL W (w.heap.size + 1 + 1) 28 [.int .i64 0] ∧
  BL W (w.heap.size + 1 + 1 + 1) 3 [.int .i64 ((pre.length * n : Nat) : Int)] ∧ Below w.heap.size w W ∧ ∀ j, j < pre.length → coverAt n es a pf j ((dvsL n deg).getD j []) = true
theorem CvI.fr {w : World} {b n deg : Nat} {q : Int} {va vb vf vp : Value} {es : List Tri} {a pf : List Int} {pre : List (Value × List Int)} {A C : World} {s : Nat} (h : CvI w b n deg q va vb vf vp es a pf pre A) (hs : w.heap.size + 4 ≤ s) (hf : Fr [s] A C) : CvI w b n deg q va vb vf vp es a pf pre C := by
  obtain ⟨k1, k2, k3, k4, k5, k6⟩ := h
  exact ⟨k1.fr hf (by simp; omega), k2.fr hf (by simp; omega), k3.fr hf (by simp; omega), k4.fr hf (by simp; omega), Fr.toBelow k5 hf (by simp; omega), k6⟩
theorem kCovers_any (gv va vb vf vp : Value) (n deg : Nat) (q : Int) (es : List Tri) (a pf : List Int) (w : World) (hg : GX w gv n es) (ha : RI w va a) (hp : RI w vp pf) (hE : Edges n es) (hn1 : 1 ≤ n) (hn : n ≤ 6) (hd : deg ≤ 12) (hal : a.length = n) (hab : Bd 2000000 a) (hpb : Bd 2000000 pf) :
    Calls Tryz.prog 71 #[gv, .agg #[.int .i64 q, .int .i64 (deg : Int), va, vb, vf, vp]] w fun e w' => e = .returned (.int .i64 (coversE n es deg a pf)) ∧ Below w.heap.size w w' := by
  obtain ⟨Aa, ca, rfl, -⟩ := ha.open_
  obtain ⟨Ap, cp, rfl, hlc, -, -⟩ := hp.open_
  rw [hal] at ha ⊢
  obtain ⟨b, vj, vv, rfl, hb, -, -⟩ := id hg
  obtain ⟨W0, hW0⟩ : ∃ W0, W0 = ((w.alloc (.cells #[.pointer (some ⟨b, 0, none⟩)] 53)).alloc (.cells #[.int .i64 q, .int .i64 (deg : Int), .slice Aa n ca, vb, vf, .slice Ap pf.length cp] 87)).alloc (.cells #[.int .i64 0] 28) := ⟨_, rfl⟩
  have hb0 : Below w.heap.size w W0 := by rw [hW0]; exact ((below_alloc w _).alloc (by simp) _).alloc (by simp; omega) _
  have hz0 : W0.heap.size = w.heap.size + 1 + 1 + 1 := by rw [hW0]; simp
  have hxg : BL W0 w.heap.size 53 [.pointer (some ⟨b, 0, none⟩)] := by rw [hW0]; exact ((BL.new' w _ _).alloc _).alloc _
  have hxc : BL W0 (w.heap.size + 1) 87 [.int .i64 q, .int .i64 (deg : Int), .slice Aa n ca, vb, vf, .slice Ap pf.length cp] := by
    rw [hW0]
    have := BL.new' (w.alloc (.cells #[.pointer (some ⟨b, 0, none⟩)] 53)) #[.int .i64 q, .int .i64 (deg : Int), .slice Aa n ca, vb, vf, .slice Ap pf.length cp] 87
    rw [World.size_alloc] at this
    exact this.alloc _
  have hxr : BL W0 (w.heap.size + 1 + 1) 28 [.int .i64 0] := by
    rw [hW0]
    have := BL.new' ((w.alloc (.cells #[.pointer (some ⟨b, 0, none⟩)] 53)).alloc (.cells #[.int .i64 q, .int .i64 (deg : Int), .slice Aa n ca, vb, vf, .slice Ap pf.length cp] 87)) #[.int .i64 0] 28
    rw [World.size_alloc, World.size_alloc] at this
    exact this
  have g0 := hxg.cell 0
  have g1 := (hb.bel hb0).cell 0
  have x1 := hxc.cell 1
  have x5 := hxc.cell 5
  have r0 := hxr.cell 0
  have r1 := hxr.frozen 0
  have HB0 := Lib.hid hb0
  have HW0 := Lib.hid hW0
  have HXg := Lib.hid hxg
  have HXc := Lib.hid hxc
  have HXr := Lib.hid hxr
  have HZ0 := Lib.hid hz0
  have HCle : Hid (∀ k, k < n → cntN deg k ≤ 6188) := fun k hk => cnt_le k (by omega) deg (by omega)
  have HCs : Hid (∀ k, cntN deg (k + 1) = cntN deg k * (deg + (k + 1)) / (k + 1)) := fun k => rfl
  have HC0 : Hid (cntN deg 0 = 1) := rfl
  have HG := Lib.hid hg
  have HA := Lib.hid ha
  have HP := Lib.hid hp
  clear hb0 hW0 hxg hxc hxr hz0 hb hg ha hp
  refine (callsIn_wide (n := 3)).1 ?_
  refine callsIn_of_wp_marks Tryz.func71 rfl trivial ?_ rfl
  refine wpIn_wide.2 ?_
  simp only [Tryz.ntmps71, List.size_toArray, List.length_cons, List.length_nil, Nat.reduceAdd, Nat.reduceSub, Array.replicate_succ, Array.replicate_zero, List.push_toArray, List.append_toArray, List.nil_append, List.cons_append]
  go_wp2_with fail
  rw [← HW0.out]
  go_loop [5, 6] (fun c k => ∃ j : Nat, j + 1 ≤ n ∧ c = .int .i64 ((cntN deg j : Nat) : Int) ∧ k = .int .i64 ((j : Int) + 1)) (fun _ k => n - (intOf k).toNat)
  case atStart => exact ⟨0, by omega, by rw [HC0.out]; rfl, rfl⟩
  case round =>
    obtain ⟨j, hj, rfl, rfl⟩ := hrel
    have hc := HCle.out j (by omega)
    by_cases hlt : j + 1 < n
    · have hs := HCs.out j
      have hc2 := HCle.out (j + 1) (by omega)
      obtain ⟨ck, hck⟩ : ∃ ck, ck = cntN deg (j + 1) := ⟨_, rfl⟩
      rw [← hck] at hs hc2
      have HCk := Lib.hid hck
      clear hck
      generalize cntN deg j = cj at *
      have HE : Hid (((ck : Nat) : Int) = (cj : Int) * ((deg : Int) + ((j : Int) + 1)) / ((j : Int) + 1)) := by
        show _ = _
        rw [hs]; push_cast; rfl
      have hm : (cj : Int) * ((deg : Int) + ((j : Int) + 1)) ≤ 6188 * 20 := Int.mul_le_mul (by omega) (by omega) (by omega) (by omega)
      have hm0 : 0 ≤ (cj : Int) * ((deg : Int) + ((j : Int) + 1)) := Int.mul_nonneg (by omega) (by omega)
      clear hs
      go_wp2
      go_round
      case rel => exact ⟨j + 1, by omega, by rw [← HCk.out, HE.out], by push_cast; rfl⟩
      case measure => simp [intOf]; omega
    · have hcj : cntN deg (n - 1) = cntN deg j := by rw [show n - 1 = j by omega]
      have hdl := dvsL_length (n := n) (deg := deg) hn1 hn hd
      rw [hcj] at hdl
      have HSpec : Hid (coversE n es deg a pf = if (pf.length : Int) ≠ ((cntN deg j : Nat) : Int) * n then 8
        else if ((List.range (dvsL n deg).length).all fun i => coverAt n es a pf i ((dvsL n deg).getD i [])) = true then 0 else 16) := by
        show _ = _
        unfold coversE; rw [hcj]
      have HDl := Lib.hid hdl
      clear hcj hdl
      generalize cntN deg j = cj at *
      have hm : (cj : Int) * (n : Int) ≤ 6188 * 6 := Int.mul_le_mul (by omega) (by omega) (by omega) (by omega)
      have hm0 : 0 ≤ (cj : Int) * (n : Int) := Int.mul_nonneg (by omega) (by omega)
      clear hc
      by_cases hpn : (pf.length : Int) = (cj : Int) * (n : Int)
      · have t : ((pf.length : Int) != (cj : Int) * (n : Int)) = false := by simpa using hpn
        rw [if_neg (fun h => h hpn)] at HSpec
        have hpn' : pf.length = cj * n := by exact_mod_cast hpn
        have HPn := Lib.hid hpn'
        clear hpn hpn'
        go_wp2_with fail
        go_quiet (fail)
        have HBz := Lib.hid (below_drewN (Below.refl W0.heap.size W0) nq)
        have hzz : (W0.drewN nq).heap.size = W0.heap.size := rfl
        generalize W0.drewN nq = Wd at *
        have hz3 : Wd.heap.size = w.heap.size + 1 + 1 + 1 := hzz.trans HZ0.out
        obtain ⟨W1, hW1⟩ : ∃ W1, W1 = Wd.alloc (.cells #[.int .i64 0] 3) := ⟨_, rfl⟩
        have hb1 : Below Wd.heap.size Wd W1 := by rw [hW1]; exact below_alloc Wd _
        have hxi : BL W1 Wd.heap.size 3 [.int .i64 0] := by rw [hW1]; exact BL.new' Wd _ _
        have HB1 := Lib.hid (HBz.out.trans (hb1.mono HBz.out.size))
        have HW1 := Lib.hid hW1
        have HXi := Lib.hid hxi
        have h0 := (HXg.out.bel HB1.out).cell 0
        have h1 := (HXc.out.bel HB1.out).cell 1
        have h2 : W1.cell? ⟨b, 0, none⟩ = some (.int .i64 (n : Int)) := by
          obtain ⟨b', vj', vv', e, hbb, -, -⟩ := HG.out
          simp only [Value.pointer.injEq, Option.some.injEq, Addr.mk.injEq, and_true] at e
          subst e
          exact ((hbb.bel HB0.out).bel HB1.out).cell 0
        clear hW1 hb1 hxi hzz g0 g1 x1 x5 r0 r1
        have HX1 := Lib.hid (HXi.out)
        rw [hz3] at HX1
        have HI1 : Hid (CvI w b n deg q (.slice Aa n ca) vb vf (.slice Ap pf.length cp) es a pf [] W1) :=
          ⟨HXg.out.bel HB1.out, HXc.out.bel HB1.out, HXr.out.bel HB1.out, by simpa using HX1.out, HB0.out.trans (HB1.out.mono HB0.out.size), fun j hj => by simp at hj⟩
        have HZ1 : Hid (W1.heap.size = w.heap.size + 1 + 1 + 1 + 1) := by show _ = _; rw [HW1.out]; simp [hz3]
        go_wp2_with fail
        rw [← HW1.out]
        have HK : Hid (∀ W', Below W1.drew.heap.size W1.drew W' → W'.cell? ⟨w.heap.size, 0, none⟩ = some (.pointer (some ⟨b, 0, none⟩)) ∧ W'.cell? ⟨b, 0, none⟩ = some (.int .i64 (n : Int)) ∧ W'.cell? ⟨w.heap.size + 1, 1, none⟩ = some (.int .i64 (deg : Int))) := fun W' hb =>
          ⟨(hb.cell (World.block_lt_of_cell? W1.drew _ h0)).trans h0, (hb.cell (World.block_lt_of_cell? W1.drew _ h2)).trans h2, (hb.cell (World.block_lt_of_cell? W1.drew _ h1)).trans h1⟩
        have HK0 := Lib.hid (HK.out _ (Below.refl _ _))
        clear h0 h1 h2 hz3
        go_region_held3 (fun W' : World => W'.cell? ⟨w.heap.size, 0, none⟩ = some (.pointer (some ⟨b, 0, none⟩)) ∧ W'.cell? ⟨b, 0, none⟩ = some (.int .i64 (n : Int)) ∧ W'.cell? ⟨w.heap.size + 1, 1, none⟩ = some (.int .i64 (deg : Int))) (first | exact HK0.out | exact HK2.out)
          (first | (go_at_call 112; refine (divisors_any n deg _).mono ?_; rintro e w2 ⟨rfl, hw2⟩; have HW2 := Lib.hid hw2; have HK2 := Lib.hid (HK.out w2 (by rw [← hw2]; exact (below_alloc _ _).alloc (by simp) _)); clear hw2))
        go_wp2_with fail
        have hz1 := HZ1.out
        have hzd : W1.drew.heap.size = w.heap.size + 4 := by have : W1.drew.heap.size = W1.heap.size := rfl; omega
        have hz2 : w2.heap.size = w.heap.size + 6 := by rw [← HW2.out]; simp [hzd]
        have hb2 : Below W1.drew.heap.size W1.drew w2 := by rw [← HW2.out]; exact (below_alloc _ _).alloc (by simp) _
        have hB2 : BL w2 W1.heap.size 3 [.int .i64 (n : Int)] := by rw [← HW2.out]; exact (BL.new' W1.drew _ _).alloc _
        have hD2 : BL w2 (W1.heap.size + 1) 3 [.int .i64 (deg : Int)] := by
          rw [← HW2.out]
          have := BL.new' (W1.drew.alloc (.cells #[.int .i64 (n : Int)] 3)) #[.int .i64 (deg : Int)] 3
          rw [World.size_alloc] at this
          exact this
        have HI2 : Hid (CvI w b n deg q (.slice Aa n ca) vb vf (.slice Ap pf.length cp) es a pf [] w2) := by
          obtain ⟨k1, k2, k3, k4, k5, k6⟩ := HI1.out
          exact ⟨BL.bel (w := W1.drew) k1 hb2, BL.bel (w := W1.drew) k2 hb2, BL.bel (w := W1.drew) k3 hb2, BL.bel (w := W1.drew) k4 hb2, Below.trans (b := W1.drew) k5.drew (hb2.mono k5.size), k6⟩
        have HB2 := Lib.hid hB2
        have HD2 := Lib.hid hD2
        have HZ2 := Lib.hid hz2
        clear hz1 hzd hz2 hb2 hB2 hD2
        refine (wpIn_wide (n := 3)).1 ?_
        refine wpIn_rangeFunc_iterW (gf := 143) (lb := #[.pointer (some ⟨W1.heap.size, 0, none⟩), .pointer (some ⟨W1.heap.size + 1, 0, none⟩)]) rfl (enters_of Tryz.func143 (by kernel_rfl) rfl)
          (dv_iter W1.heap.size (W1.heap.size + 1) (w.heap.size + 8) n deg hn1 (by omega) hd (by have := HZ1.out; omega) (by have := HZ1.out; omega)) (fun _ => rfl) ?hR LkK_trans ?hKp ?hIt (fun _ _ _ _ h _ => h) (fun _ _ _ _ _ _ => trivial) (CvI w b n deg q (.slice Aa n ca) vb vf (.slice Ap pf.length cp) es a pf) (fun c pre W => c = .ret ∧ BL W (w.heap.size + 1 + 1) 28 [.int .i64 16] ∧ Below w.heap.size w W ∧ ∃ j, j < (dvsL n deg).length ∧ coverAt n es a pf j ((dvsL n deg).getD j []) = false) ?hI ?hIx ?hIR ?hIxR ?hpre ?h0
          ?a1 ?assign ?body ?done ?stop
        case assign =>
          intro l x W K' hK'
          gi_wp2
          exact hK'
        case hR => intro A C h hs; have := HZ2.out; exact ⟨h.block _ (by omega) (by simp; omega), h.block _ (by omega) (by simp; omega)⟩
        case hKp => intro W r o _; have := HZ2.out; have := HZ1.out; exact LkK_put W _ (by simp; omega)
        case hIt => rintro pre x W r o ⟨h1, h2, h3, h4⟩ hl; exact ⟨OV.putL h1 hl o, h2, by simpa [World.putObj] using h3, h4⟩
        case hI =>
          rintro pre W r o ⟨k1, k2, k3, k4, k5, k6⟩ hl
          exact ⟨k1.putLoop hl o, k2.putLoop hl o, k3.putLoop hl o, k4.putLoop hl o, below_putLoop k5 (by have := HZ2.out; omega) o, k6⟩
        case hIx =>
          rintro c pre W r o ⟨k1, k2, k3, k4⟩ hl
          exact ⟨k1, k2.putLoop hl o, below_putLoop k3 (by have := HZ2.out; omega) o, k4⟩
        case hIR => intro pre A C h hr; exact h.fr (by omega) hr
        case hIxR => rintro c pre A C ⟨k1, k2, k3, k4⟩ hr; exact ⟨k1, k2.fr hr (by simp), Fr.toBelow k3 hr (by simp; omega), k4⟩
        case hpre =>
          intro r
          have hb := (below_alloc w2 (.deferred (some []))).alloc (by simp) (.loop r)
          exact ⟨by have := HZ2.out; first | (simp; omega) | omega, HB2.out.bel hb, HD2.out.bel hb⟩
        case h0 =>
          intro r
          have hb := (below_alloc w2 (.deferred (some []))).alloc (by simp) (.loop r)
          exact HI2.out.fr (s := w.heap.size + 9) (by omega) ((Fr.refl _ w2).below hb)
        case stop =>
          rintro c pre W - ⟨rfl, k2, k3, j, hj, hc⟩ hD
          have HR : Hid (coversE n es deg a pf = 16) := by
            show _ = _
            rw [HSpec.out, if_neg]
            intro h
            have := List.all_eq_true.1 h j (List.mem_range.2 hj)
            rw [hc] at this
            cases this
          have K2 := Lib.hid k2
          have K3 := Lib.hid k3
          have HD := Lib.hid hD
          clear k2 k3 hD hc hj
          refine wpIn_wide.2 ?_
          go_wp2
          refine leaves_marks (B := w.heap.size) [_] _ ⟨⟨_, rfl, by have := HZ2.out; omega, HD.out, by simp⟩, trivial⟩ fun w' hs => ⟨_, results_cell1 rfl _ _ _ _ _ rfl Tryz.underlying28 rfl ((K2.out.shut hs).cell 0), ret_i HR.out.symm, Below.shut K3.out hs⟩
        case done =>
          rintro xs W hxs ⟨k1, k2, k3, k4, k5, k6⟩ hD
          have HR : Hid (coversE n es deg a pf = 0) := by
            show _ = _
            rw [HSpec.out, if_pos]
            refine List.all_eq_true.2 fun j hj => k6 j ?_
            have := congrArg List.length hxs
            rw [List.length_map] at this
            rw [this]; exact List.mem_range.1 hj
          have q0 := k3.cell 0
          have q1 := k3.frozen 0
          have K3 := Lib.hid k3
          have K5 := Lib.hid k5
          have HD := Lib.hid hD
          clear k1 k2 k3 k4 k5 k6 hD hxs
          have hz2 := HZ2.out
          go_wp2
          refine leaves_marks (B := w.heap.size) [_] _ ⟨⟨_, rfl, by omega, (heap_setCell_other _ _ _ _ (by simp; omega)).trans HD.out, by simp⟩, trivial⟩ fun w' hs => ⟨_, results_cell1 rfl _ _ _ _ _ rfl Tryz.underlying28 rfl (((K3.out.set 0 _).shut hs).cell 0), ret_i HR.out.symm, Below.shut (K5.out.setCell (p := ⟨w.heap.size + 1 + 1, 0, none⟩) (by simp; omega) _) hs⟩
        case body =>
          rintro l pre ⟨xv, xl⟩ W r ⟨k1, k2, k3, k4, k5, k6⟩ ⟨hx, hxl, hsW, rest, hrest⟩ hl hd'
          dsimp only at hx hxl hrest
          have hpre : pre.length < cj := by
            rw [← HDl.out, ← hrest]; simp
          have hgx : (dvsL n deg).getD pre.length [] = xl := by
            rw [← hrest, List.getD_eq_getElem?_getD, List.getElem?_append_right (by simp)]; simp
          have hpl : pre.length * n + n ≤ pf.length := by
            rw [HPn.out, ← Nat.succ_mul]; exact Nat.mul_le_mul_right n hpre
          obtain ⟨Ap', cp', hep, -, -, hcp⟩ := HP.out.open_
          simp only [Value.slice.injEq, true_and] at hep
          obtain ⟨rfl, rfl⟩ := hep
          obtain ⟨ad, -, rfl, -⟩ := hcp 0 (by omega)
          obtain ⟨i0, hi0⟩ : ∃ i0, i0 = pre.length * n := ⟨_, rfl⟩
          rw [← hi0] at k4 hpl
          have hsub := RI.sub HP.out (i := i0) (j := i0 + n) (by omega) hpl
          have hxb : Below w.heap.size w W := k5
          have HCov : Hid (coverAt n es a pf pre.length ((dvsL n deg).getD pre.length []) = effB (appLk n es (plusL a xl (-1)) ((pf.drop i0).take n))) := by
            show _ = _; rw [hgx, hi0]; rfl
          have hec : (pf.take (i0 + n)).drop i0 = (pf.drop i0).take n := by rw [List.drop_take]; congr 1; omega
          have hsb : Bd 2000000 ((pf.take (i0 + n)).drop i0) := hpb.sub (by decide) i0 (i0 + n)
          rw [hec] at hsub hsb
          rw [Nat.add_sub_cancel_left] at hsub
          have hsl : ((pf.drop i0).take n).length = n := by rw [List.length_take, List.length_drop]; omega
          have hml : (plusL a xl (-1)).length = n := by simp [plusL, hal, hxl]
          have hxm : xl ∈ dvsL n deg := by rw [← hrest]; simp
          have hxd := dvsL_bd hd hxm
          have hmb : Bd 20000000 (plusL a xl (-1)) := fun v => by
            by_cases hv : v < n
            · rw [minus_at hal hxl hv]
              have h1 := hab v
              have h2 := hxd v
              omega
            · rw [List.getD_eq_getElem?_getD, List.getElem?_eq_none (by rw [hml]; omega)]; simp
          have hxr := hx.ri
          have HLe : Hid (∀ W', Below W.heap.size W W' → Calls Tryz.prog 113 #[.slice Aa n ca, xv] W' fun e w' => ∃ v, e = .returned v ∧ OI w' W'.heap.size v (plusL a xl (-1)) ∧ Below W'.heap.size W' w') := fun W' h =>
            kLess_any _ _ n a xl W' (RI.below (RI.below HA.out k5) h) (RI.below hxr h) hal hxl (by omega) (hab.mono (by decide)) (hxd.mono (by decide))
          have HAp : Hid (∀ v W', Below W.heap.size W W' → RI W' v (plusL a xl (-1)) → Calls Tryz.prog 108 #[.pointer (some ⟨b, 0, none⟩), v, .slice (some (ad.add i0)) n (cp - i0)] W' fun e w' => ∃ v, e = .returned v ∧ OI w' W'.heap.size v (appLk n es (plusL a xl (-1)) ((pf.drop i0).take n)) ∧ Below W'.heap.size W' w') := fun v W' h hv =>
            kApp_any _ _ _ n es _ _ W' ((HG.out.below k5).below h) hv (RI.below (RI.below hsub k5) h) hE (by omega) hml hsl hmb hsb
          generalize appLk n es (plusL a xl (-1)) ((pf.drop i0).take n) = ap at *
          generalize plusL a xl (-1) = mi at *
          have HEf : Hid (∀ v W', RI W' v ap → Calls Tryz.prog 68 #[v] W' fun e w' => e = .returned (.bool (effB ap)) ∧ W' = w') := fun v W' h => kEff_any v ap W' h
          have hgb : W.cell? ⟨b, 0, none⟩ = some (.int .i64 (n : Int)) := by
            obtain ⟨b', vj', vv', e, hbb, -, -⟩ := HG.out
            simp only [Value.pointer.injEq, Option.some.injEq, Addr.mk.injEq, and_true] at e
            subst e
            exact (hbb.bel k5).cell 0
          have HK : Hid (∀ W', Below W.heap.size W W' → W'.cell? ⟨w.heap.size, 0, none⟩ = some (.pointer (some ⟨b, 0, none⟩)) ∧ W'.cell? ⟨w.heap.size + 1, 2, none⟩ = some (.slice Aa n ca) ∧ W'.cell? ⟨w.heap.size + 1, 5, none⟩ = some (.slice (some ad) pf.length cp) ∧ W'.cell? ⟨w.heap.size + 1 + 1 + 1, 0, none⟩ = some (.int .i64 (i0 : Int)) ∧ W'.cell? ⟨b, 0, none⟩ = some (.int .i64 (n : Int))) := fun W' h =>
            ⟨(k1.bel h).cell 0, (k2.bel h).cell 2, (k2.bel h).cell 5, (k4.bel h).cell 0, (h.cell (World.block_lt_of_cell? W _ hgb)).trans hgb⟩
          have hB0 : Below W.heap.size W W.drew := (Below.refl _ _).drew
          have HS0 := Lib.hid (HK.out _ hB0)
          have HB0' := Lib.hid hB0
          have HK1 := Lib.hid k1
          have HK3 := Lib.hid k3
          have HK4 := Lib.hid k4
          have HK2 := Lib.hid k2
          have HK5 := Lib.hid k5
          have HK6 := Lib.hid k6
          have HI0 := Lib.hid hi0
          have HL := Lib.hid hl
          have HD := Lib.hid hd'
          have HsW := Lib.hid hsW
          have HPre := Lib.hid hpre
          have c1 : pf.length ≤ 37128 := by rw [HPn.out]; exact_mod_cast hm
          have c2 : ¬ cp = i0 := by omega
          have c3 : i0 + n ≤ cp := by omega
          have hw : IntKind.i64.wrap ((i0 : Int) + (n : Int)) = (i0 : Int) + (n : Int) := by simp (disch := omega) only [IntWalk.i64_in]
          have f1 : (0 : Int) ≤ (i0 : Int) + (n : Int) := by omega
          have f2 : (i0 : Int) + (n : Int) ≤ (cp : Int) := by omega
          have f3 : ((i0 : Int) + (n : Int)).toNat = i0 + n := by omega
          clear k1 k2 k3 k4 k5 k6 hx hxl hrest hl hd' hsub hsb hsl hml hxm hxd hmb hxr hB0 hgb hec hi0 hgx hxb hcp hsW
          gi_wp2_with fail
          refine held_round (S := fun W' : World => W'.cell? ⟨w.heap.size, 0, none⟩ = some (.pointer (some ⟨b, 0, none⟩)) ∧ W'.cell? ⟨w.heap.size + 1, 2, none⟩ = some (.slice Aa n ca) ∧ W'.cell? ⟨w.heap.size + 1, 5, none⟩ = some (.slice (some ad) pf.length cp) ∧ W'.cell? ⟨w.heap.size + 1 + 1 + 1, 0, none⟩ = some (.int .i64 (i0 : Int)) ∧ W'.cell? ⟨b, 0, none⟩ = some (.int .i64 (n : Int))) (by kernel_rfl) (by kernel_rfl) (fun ⟨a, w, h⟩ => h) HS0.out (fun hHeld => ?_)
          refine tkY (v := ?_) 0 (some 43) rfl (.inl ⟨by rfl, ?_⟩) ?_
          rotate_left
          · (intro w hSw; (try dsimp only at hSw); go_simp; try with_reducible rfl)
          try simp only [Act.put, tk1, tk2, tk3]
          refine tkY (v := ?_) 1 (some 44) rfl (.inl ⟨by rfl, ?_⟩) ?_
          rotate_left
          · (intro w hSw; (try dsimp only at hSw); go_simp; try with_reducible rfl)
          try simp only [Act.put, tk1, tk2, tk3]
          refine tkY (v := ?_) 2 (some 45) rfl (.inl ⟨by rfl, ?_⟩) ?_
          rotate_left
          · (intro w hSw; (try dsimp only at hSw); go_simp; try with_reducible rfl)
          try simp only [Act.put, tk1, tk2, tk3]
          refine tkY (v := ?_) 3 (some 46) rfl (.inl ⟨by rfl, ?_⟩) ?_
          rotate_left
          · (intro w hSw; (try dsimp only at hSw); go_simp; try with_reducible rfl)
          try simp only [Act.put, tk1, tk2, tk3]
          refine tkY (v := ?_) 5 (some 48) rfl (.inl ⟨by rfl, ?_⟩) ?_
          rotate_left
          · (intro w hSw; (try dsimp only at hSw); go_simp; try with_reducible rfl)
          try simp only [Act.put, tk1, tk2, tk3]
          refine tkY (v := ?_) 6 (some 49) rfl (.inl ⟨by rfl, ?_⟩) ?_
          rotate_left
          · (intro w hSw; (try dsimp only at hSw); go_simp; try with_reducible rfl)
          try simp only [Act.put, tk1, tk2, tk3]
          refine tkY (v := ?_) 7 (some 50) rfl (.inl ⟨by rfl, ?_⟩) ?_
          rotate_left
          · (intro w hSw; (try dsimp only at hSw); go_simp; try with_reducible rfl)
          try simp only [Act.put, tk1, tk2, tk3]
          refine tkY (v := ?_) 8 (some 51) rfl (.inl ⟨by rfl, ?_⟩) ?_
          rotate_left
          · (intro w hSw; (try dsimp only at hSw); go_simp; try with_reducible rfl)
          try simp only [Act.put, tk1, tk2, tk3]
          refine tkY (v := ?_) 9 (some 52) rfl (.inl ⟨by rfl, ?_⟩) ?_
          rotate_left
          · (intro w hSw; (try dsimp only at hSw); go_simp; try with_reducible rfl)
          try simp only [Act.put, tk1, tk2, tk3]
          refine tkY (v := ?_) 10 (some 53) rfl (.inl ⟨by rfl, ?_⟩) ?_
          rotate_left
          · (intro w hSw; (try dsimp only at hSw); go_simp; try with_reducible rfl)
          try simp only [Act.put, tk1, tk2, tk3]
          refine tkY (v := ?_) 11 (some 54) rfl (.inl ⟨by rfl, ?_⟩) ?_
          rotate_left
          · (intro w hSw; (try dsimp only at hSw); go_simp; try with_reducible rfl)
          try simp only [Act.put, tk1, tk2, tk3]
          refine tkY (v := ?_) 12 (some 55) rfl (.inl ⟨by rfl, ?_⟩) ?_
          rotate_left
          · (intro w hSw; (try dsimp only at hSw); go_simp; try with_reducible rfl)
          try simp only [Act.put, tk1, tk2, tk3]
          refine tkY (v := ?_) 13 (some 56) rfl (.inl ⟨by rfl, ?_⟩) ?_
          rotate_left
          · (intro w hSw; (try dsimp only at hSw); go_simp; try with_reducible rfl)
          try simp only [Act.put, tk1, tk2, tk3]
          refine tkY (v := ?_) 14 (some 57) rfl (.inl ⟨by rfl, ?_⟩) ?_
          rotate_left
          · (intro w hSw; (try dsimp only at hSw); go_simp; try with_reducible rfl)
          try simp only [Act.put, tk1, tk2, tk3]
          refine wpAnyH_ready (rs := [4]) (by kernel_rfl) (by simp) ?_
          refine AllReadyH.cons (o := { dst := some 47, op := _, type := _, pos := _, after := _, guard := _ }) rfl (fun K hK => ?_) AllReadyH.nil
          go_simp
          (with_reducible refine (HLe.out _ HB0'.out).mono ?_); rintro e w4 ⟨v4, rfl, ho4, hb4⟩; have HB4 := Lib.hid (HB0'.out.trans (hb4.mono HB0'.out.size)); have HS4 := Lib.hid (HK.out w4 HB4.out); have HR4 := Lib.hid ho4.ri; clear ho4 hb4
          clear hHeld
          refine hK.out _ _ HS4.out (fun hHeld => ?_)
          clear hK K
          try simp only [Act.put, tk1, tk2, tk3]
          refine wpAnyH_ready (rs := [15]) (by kernel_rfl) (by simp) ?_
          refine AllReadyH.cons (o := { dst := some 58, op := _, type := _, pos := _, after := _, guard := _ }) rfl (fun K hK => ?_) AllReadyH.nil
          go_simp
          (with_reducible refine (HAp.out _ _ HB4.out HR4.out).mono ?_); rintro e w5 ⟨v5, rfl, ho5, hb5⟩; have HB5 := Lib.hid (HB4.out.trans (hb5.mono HB4.out.size)); have HS5 := Lib.hid (HK.out w5 HB5.out); have HR5 := Lib.hid ho5.ri; clear ho5 hb5
          clear hHeld
          refine hK.out _ _ HS5.out (fun hHeld => ?_)
          clear hK K
          try simp only [Act.put, tk1, tk2, tk3]
          refine wpAnyH_ready (rs := [16]) (by kernel_rfl) (by simp) ?_
          refine AllReadyH.cons (o := { dst := some 59, op := _, type := _, pos := _, after := _, guard := _ }) rfl (fun K hK => ?_) AllReadyH.nil
          go_simp
          (with_reducible refine (HEf.out _ _ HR5.out).mono ?_); rintro e w6 ⟨rfl, rfl⟩
          clear hHeld
          refine hK.out _ _ HS5.out (fun hHeld => ?_)
          clear hK K
          try simp only [Act.put, tk1, tk2, tk3]
          refine tkY (v := ?_) 17 (some 60) rfl (.inl ⟨by rfl, ?_⟩) ?_
          rotate_left
          · (intro w hSw; (try dsimp only at hSw); go_simp; try with_reducible rfl)
          try simp only [Act.put, tk1, tk2, tk3]
          refine wpAnyH_done (by kernel_rfl) ?_ _
          generalize effB ap = eb at *
          have HFin : Hid (KeepLD w2.heap.size W w5 ∧ LkK [W1.heap.size, w.heap.size + 8, w.heap.size + 8 + 1, w.heap.size + 8 + 2, w.heap.size + 8 + 3] W w5) := by
            have h1 := lt_of_block HL.out
            have h2 := HsW.out
            have h3 := HZ1.out
            refine ⟨⟨HB5.out.block _ (by omega), HB5.out.block _ (by omega)⟩, HB5.out.size, fun k hk => HB5.out.block k ?_⟩
            simp only [List.mem_cons, List.not_mem_nil, or_false] at hk
            omega
          have r0 := (HK3.out.bel HB5.out).cell 0
          have r1 := (HK3.out.bel HB5.out).frozen 0
          have t0 := (HK4.out.bel HB5.out).cell 0
          have t1 := (HK4.out.bel HB5.out).frozen 0
          have HP5 := Lib.hid (HK5.out.trans (HB5.out.mono HK5.out.size))
          have hbw := HB5.out.size
          have hlb := lt_of_block HL.out
          have hsw := HsW.out
          have hz1 := HZ1.out
          have hz2 := HZ2.out
          have hKL : ∀ (x : Value) (k : Nat), k = w.heap.size + 1 + 1 ∨ k = w.heap.size + 1 + 1 + 1 → KeepLD w2.heap.size W (w5.setCell ⟨k, 0, none⟩ x) ∧ LkK [W1.heap.size, w.heap.size + 8, w.heap.size + 8 + 1, w.heap.size + 8 + 2, w.heap.size + 8 + 3] W (w5.setCell ⟨k, 0, none⟩ x) := fun x k hk => by
            refine ⟨⟨(heap_setCell_other _ _ _ _ (by simp; omega)).trans HFin.out.1.1, (heap_setCell_other _ _ _ _ (by simp; omega)).trans HFin.out.1.2⟩, by simpa using hbw, fun j hj => (heap_setCell_other _ _ _ _ ?_).trans (HFin.out.2.2 j hj)⟩
            simp only [List.mem_cons, List.not_mem_nil, or_false] at hj
            simp
            omega
          have HKL := Lib.hid hKL
          have HHP := Lib.hid hpre
          clear hKL hbw hlb hsw hz1 hz2
          cases eb
          · gi_wp2_with fail
            exact ⟨(HKL.out _ _ (.inl rfl)).1, rfl, (HK3.out.bel HB5.out).set 0 _, HP5.out.setCell (p := ⟨w.heap.size + 1 + 1, 0, none⟩) (by simp; omega) _, pre.length, by rw [HDl.out]; exact HHP.out, HCov.out⟩
          · clear r0 r1
            have g0 := (HK1.out.bel HB5.out).cell 0
            have g1 := HS5.out.2.2.2.2
            have HI6 : Hid (CvI w b n deg q (.slice Aa n ca) vb vf (.slice (some ad) pf.length cp) es a pf (pre ++ [(xv, xl)]) (w5.setCell ⟨w.heap.size + 1 + 1 + 1, 0, none⟩ (.int .i64 ((i0 : Int) + (n : Int))))) := by
              refine ⟨(HK1.out.bel HB5.out).set_other (by first | (simp; done) | (simp; omega)) _, (HK2.out.bel HB5.out).set_other (by first | (simp; done) | (simp; omega)) _, (HK3.out.bel HB5.out).set_other (by simp) _, ?_, HP5.out.setCell (p := ⟨w.heap.size + 1 + 1 + 1, 0, none⟩) (by simp; omega) _, fun j hj => ?_⟩
              · have h := (HK4.out.bel HB5.out).set 0 (.int .i64 ((i0 : Int) + (n : Int)))
                have e : (((pre ++ [(xv, xl)]).length * n : Nat) : Int) = (i0 : Int) + (n : Int) := by
                  rw [List.length_append, List.length_singleton, Nat.succ_mul, ← HI0.out]; push_cast; rfl
                rw [e]
                exact h
              · by_cases e : j = pre.length
                · rw [e]; exact HCov.out
                · exact HK6.out j (by rw [List.length_append, List.length_singleton] at hj; omega)
            gi_wp2_with fail
            refine still_tail_round 6 (by kernel_rfl) (by kernel_rfl) (by kernel_rfl) (fun ⟨a, w, h⟩ => h) ?_
            change wpStill _ _ w5.drew _ _ _
            simp only [List.take_succ_cons, List.take_zero, List.drop_succ_cons, List.drop_zero]
            repeat still_step
            refine wpStill_nil ?_
            change wpList _ _ _ _ _ w5.drew
            go_wp2_with fail
            gi_wp2
            obtain ⟨h1, h2, h3, h4, h5, h6⟩ := HI6.out
            exact ⟨(HKL.out _ _ (.inr rfl)).1, (HKL.out _ _ (.inr rfl)).2, h1, h2, h3, h4, h5.drew, h6⟩
      · have t : ((pf.length : Int) != (cj : Int) * (n : Int)) = true := by simpa using hpn
        rw [if_pos hpn] at HSpec
        clear hpn
        go_wp2_with fail
        go_quiet (fail)
        have HBz := Lib.hid (below_drewN (Below.refl W0.heap.size W0) nq)
        have hxr := HXr.out.bel HBz.out
        have q1 := hxr.frozen 0
        have q0 := hxr.cell 0
        have hz0 := HZ0.out
        go_wp2
        refine leaves_marks (B := w.heap.size) [] _ trivial fun w' hs => ⟨_, results_cell1 rfl _ _ _ _ _ rfl Tryz.underlying28 rfl (((hxr.set 0 _).shut hs).cell 0), ret_i HSpec.out.symm, ?_⟩
        refine Below.shut ((HB0.out.trans (HBz.out.mono HB0.out.size)).setCell (p := ⟨w.heap.size + 1 + 1, 0, none⟩) (by simp; omega) _) hs
end Go.Proofs.YtgcnijmmjlfabaaGreatDoor

