/- Contracts of the references' Connected, Joined, Low.
   Contracts of the laws' own helpers: low, right.
   The law Fires in plain words. -/
import Derived.Test.YtefggpdobjboeaaGreatG25
namespace Go.Proofs.YtefggpdobjboeaaGreat
open Go.RowKit Go.Shelf

theorem rConn_any (g : Value) (n : Nat) (es : List Tri) (w : World) (hg : GV w g n es) (hE : Edges n es) (hn : n ≤ 12) (hn1 : 1 ≤ n) :
    Calls Tryz.prog 96 #[g] w fun e w' => e = .returned (.bool (connB n es)) ∧ Below w.heap.size w w' := by
  obtain ⟨A, c, rfl, -⟩ := hg.open_
  obtain ⟨W0, hW0⟩ : ∃ W0, W0 = w.alloc (.cells #[.int .i64 (n : Int), .slice A es.length c] 24) := ⟨_, rfl⟩
  have hb0 : Below w.heap.size w W0 := by rw [hW0]; exact below_alloc w _
  have hx0 : BL W0 w.heap.size 24 [.int .i64 (n : Int), .slice A es.length c] := by rw [hW0]; exact BL.new' w _ _
  have HC := Lib.hid (rParts_any _ n es W0 (hg.below hb0) hE hn hn1)
  have HI := Lib.hid (connB_iff hn1 hn hE)
  have c0 := hx0.cell 0
  have c1 := hx0.cell 1
  have HB0 := Lib.hid hb0
  have HW0 := Lib.hid hW0
  rw [hW0] at c0 c1
  clear hg hb0 hx0 hW0 hE
  go_enter Tryz.func96, Tryz.ntmps96
  go_wp2_with fail
  rw [← HW0.out]
  refine HC.out.mono ?_
  rintro e w1 ⟨k, rfl, hk, hb1⟩
  have HB1 := Lib.hid (HB0.out.trans (hb1.mono HB0.out.size))
  clear hb1 c0 c1
  by_cases h1 : k = 1
  · have hcb : connB n es = true := HI.out.2 (hk.1 h1)
    have t : ((k : Int) == 1) = true := by simp; omega
    clear hk h1
    go_wp2
    go_ret
    exact ⟨ret_b hcb.symm, HB1.out⟩
  · have hcb : connB n es = false := by
      cases e : connB n es
      · rfl
      · exact absurd (hk.2 (HI.out.1 e)) h1
    have t : ((k : Int) == 1) = false := by simp; omega
    clear hk h1
    go_wp2
    go_ret
    exact ⟨ret_b hcb.symm, HB1.out⟩
set_option maxRecDepth 100000 in
set_option maxHeartbeats 4000000 in
theorem rJoined_any (g : Value) (n : Int) (es : List Tri) (w : World) (hg : GV w g n es) :
    Calls Tryz.prog 54 #[g] w fun e w' => e = .returned (.int .i64 (eGiven n es [])) ∧ Below w.heap.size w w' := by
  obtain ⟨A, c, rfl, hlc, hc, -⟩ := hg.open_
  obtain ⟨W0, hW0⟩ : ∃ W0, W0 = w.alloc (.cells #[.int .i64 n, .slice A es.length c] 24) := ⟨_, rfl⟩
  have hb0 : Below w.heap.size w W0 := by rw [hW0]; exact below_alloc w _
  have hx0 : BL W0 w.heap.size 24 [.int .i64 n, .slice A es.length c] := by rw [hW0]; exact BL.new' w _ _
  have hgc := rgCheck_any _ n es W0 (hg.below hb0)
  have c0 := hx0.cell 0
  have c1 := hx0.cell 1
  have HX0 := Lib.hid hx0
  have HG0 := Lib.hid (hg.below hb0)
  have HB0 := Lib.hid hb0
  have HW0 := Lib.hid hW0
  rw [hW0] at c0 c1
  clear hg hb0 hx0 hW0
  by_cases h2 : gcheckE n es = 0
  · rw [h2] at hgc
    have HGc := Lib.hid hgc
    obtain ⟨m, rfl, h1, h12, hE⟩ := gcheckE_zero h2
    have HR : Hid (eGiven m es [] = if connB m es = false then 13 else 0) := by show _ = _; unfold eGiven; rw [if_neg (by simpa using h2)]; rfl
    have HE := Lib.hid hE
    have hh1 : Hid (1 ≤ m ∧ m ≤ 12) := ⟨by omega, by omega⟩
    clear h2 hE hgc h1 h12
    go_enter Tryz.func54, Tryz.ntmps54
    go_wp2_with fail
    rw [← HW0.out]
    refine HGc.out.mono ?_
    rintro e w1 ⟨rfl, hb1⟩
    have hx1 := HX0.out.bel hb1
    have d0 := hx1.cell 0
    have d1 := hx1.cell 1
    have hcn := rConn_any _ m es w1 (HG0.out.below hb1) HE.out hh1.out.2 hh1.out.1
    have HB1 := Lib.hid (HB0.out.trans (hb1.mono HB0.out.size))
    clear hb1 hx1 c0 c1
    cases hcb : connB m es
    · rw [hcb] at hcn
      have HCn := Lib.hid hcn
      have HR2 : Hid (eGiven m es [] = 13) := by show _ = _; rw [HR.out, hcb]; rfl
      clear hcn hcb
      go_wp2_with fail
      refine HCn.out.mono ?_
      rintro e w2 ⟨rfl, hb2⟩
      have HB2 := Lib.hid (HB1.out.trans (hb2.mono HB1.out.size))
      clear hb2
      go_wp2
      go_ret
      exact ⟨ret_i HR2.out.symm, HB2.out⟩
    · rw [hcb] at hcn
      have HCn := Lib.hid hcn
      have HR2 : Hid (eGiven m es [] = 0) := by show _ = _; rw [HR.out, hcb]; rfl
      clear hcn hcb
      go_wp2_with fail
      refine HCn.out.mono ?_
      rintro e w2 ⟨rfl, hb2⟩
      have HB2 := Lib.hid (HB1.out.trans (hb2.mono HB1.out.size))
      clear hb2
      go_wp2
      go_ret
      exact ⟨ret_i HR2.out.symm, HB2.out⟩
  · obtain ⟨r, hr⟩ : ∃ r, r = gcheckE n es := ⟨_, rfl⟩
    have HR : Hid (eGiven n es [] = r) := by show _ = _; unfold eGiven; rw [if_pos h2, hr]
    rw [← hr] at hgc h2
    have HGc := Lib.hid hgc
    have t : (r != 0) = true := by simpa using h2
    clear hgc hr h2
    go_enter Tryz.func54, Tryz.ntmps54
    go_wp2_with fail
    rw [← HW0.out]
    refine HGc.out.mono ?_
    rintro e w1 ⟨rfl, hb1⟩
    have HB1 := Lib.hid (HB0.out.trans (hb1.mono HB0.out.size))
    clear hb1 c0 c1
    go_wp2
    go_ret
    exact ⟨ret_i HR.out.symm, HB1.out⟩
/-- What Low answers. -/
def lowB (n : Int) (zs : List Int) : Bool := if 100 < zs.length then false else if checkE zs n ≠ 0 then true else zs.all fun z => decide (-100 ≤ z) && decide (z ≤ 100)
theorem lowB_lw {n : Int} {zs : List Int} (h : lowB n zs = true) : Lw n zs := by
  intro hc
  unfold lowB at h
  by_cases h1 : 100 < zs.length
  · rw [if_pos h1] at h; cases h
  · rw [if_neg h1, if_neg (by simpa using hc)] at h
    refine bd_mem (by decide) fun z hz => ?_
    have := List.all_eq_true.1 h z hz
    simpa using this
set_option maxRecDepth 100000 in
set_option maxHeartbeats 4000000 in
theorem rLow_any (g vd : Value) (n : Int) (es : List Tri) (zs : List Int) (w : World) (hg : GV w g n es) (hd : RI w vd zs) :
    Calls Tryz.prog 30 #[g, vd] w fun e w' => e = .returned (.bool (lowB n zs)) ∧ Below w.heap.size w w' := by
  obtain ⟨A, c, rfl, -⟩ := hg.open_
  obtain ⟨A2, c2, rfl, hlc, hc, -⟩ := hd.open_
  obtain ⟨W0, hW0⟩ : ∃ W0, W0 = w.alloc (.cells #[.int .i64 n, .slice A es.length c] 24) := ⟨_, rfl⟩
  have hb0 : Below w.heap.size w W0 := by rw [hW0]; exact below_alloc w _
  have hx0 : BL W0 w.heap.size 24 [.int .i64 n, .slice A es.length c] := by rw [hW0]; exact BL.new' w _ _
  have c0 := hx0.cell 0
  have hck := rCheck_any _ zs n W0 (RI.below hd hb0)
  have HD := Lib.hid (RI.below hd hb0)
  have HB0 := Lib.hid hb0
  have HW0 := Lib.hid hW0
  rw [hW0] at c0
  clear hg hd hb0 hx0 hW0
  by_cases h1 : 100 < zs.length
  · have HR : Hid (lowB n zs = false) := by show _ = _; unfold lowB; rw [if_pos h1]
    go_enter Tryz.func30, Tryz.ntmps30
    go_wp2
    go_ret
    exact ⟨ret_b HR.out.symm, below_alloc w _⟩
  by_cases h2 : checkE zs n = 0
  · rw [h2] at hck
    have HCk := Lib.hid hck
    have HF : Hid (lowB n zs = zs.all fun z => decide (-100 ≤ z) && decide (z ≤ 100)) := by show _ = _; unfold lowB; rw [if_neg h1, if_neg (by simpa using h2)]
    clear h2 hck
    go_enter Tryz.func30, Tryz.ntmps30
    go_wp2_with fail
    rw [← HW0.out]
    refine HCk.out.mono ?_
    rintro e w1 ⟨rfl, rfl⟩
    go_wp2_with fail
    clear c0
    go_loop [5] (fun i => ∃ k : Nat, k ≤ zs.length ∧ i = .int .i64 (k : Int) ∧ Hid ((zs.drop k).all (fun z => decide (-100 ≤ z) && decide (z ≤ 100)) = zs.all fun z => decide (-100 ≤ z) && decide (z ≤ 100))) (fun i => zs.length - (intOf i).toNat)
    case atStart => exact ⟨0, Nat.zero_le _, rfl, rfl⟩
    case round =>
      obtain ⟨k, hk, rfl, hE⟩ := hrel
      by_cases hlt : k < zs.length
      · obtain ⟨A3, c3, he, -, -, hcell⟩ := RI.open_ HD.out
        simp only [Value.slice.injEq, true_and] at he
        obtain ⟨rfl, rfl⟩ := he
        obtain ⟨ad, z, rfl, hadb, hz, hcl⟩ := hcell k hlt
        have hd : zs.drop k = z :: zs.drop (k + 1) := by
          obtain ⟨h, h'⟩ := List.getElem?_eq_some_iff.1 hz.out
          rw [← h']; exact List.drop_eq_getElem_cons h
        clear hcell
        by_cases z1 : z < -100
        · have HR : Hid (lowB n zs = false) := by
            show _ = _
            rw [HF.out, ← hE.out, hd, List.all_cons]
            have : decide (-100 ≤ z) = false := by simp; omega
            simp [this]
          clear hd hz hE
          go_wp2
          go_ret
          exact ⟨ret_b HR.out.symm, HB0.out⟩
        · by_cases z2 : 100 < z
          · have HR : Hid (lowB n zs = false) := by
              show _ = _
              rw [HF.out, ← hE.out, hd, List.all_cons]
              have : decide (z ≤ 100) = false := by simp; omega
              simp [this]
            clear hd hz hE
            go_wp2
            go_ret
            exact ⟨ret_b HR.out.symm, HB0.out⟩
          · have HE2 : Hid ((zs.drop (k + 1)).all (fun z => decide (-100 ≤ z) && decide (z ≤ 100)) = zs.all fun z => decide (-100 ≤ z) && decide (z ≤ 100)) := by
              show _ = _
              rw [← hE.out, hd, List.all_cons]
              have e1 : decide (-100 ≤ z) = true := by simp; omega
              have e2 : decide (z ≤ 100) = true := by simp; omega
              simp [e1, e2]
            clear hd hz hE
            go_wp2
            go_round
            case rel => exact ⟨k + 1, by omega, by go_num, HE2.out⟩
            case measure => simp [intOf]; omega
      · have HR : Hid (lowB n zs = true) := by
          show _ = _
          rw [HF.out, ← hE.out, List.drop_of_length_le (by omega)]
          rfl
        go_wp2
        go_ret
        exact ⟨ret_b HR.out.symm, HB0.out⟩
  · obtain ⟨r, hr⟩ : ∃ r, r = checkE zs n := ⟨_, rfl⟩
    have HR : Hid (lowB n zs = true) := by show _ = _; unfold lowB; rw [if_neg h1, if_pos h2]
    rw [← hr] at hck h2
    have HCk := Lib.hid hck
    have t : (r != 0) = true := by simpa using h2
    clear hck hr h2
    go_enter Tryz.func30, Tryz.ntmps30
    go_wp2_with fail
    rw [← HW0.out]
    refine HCk.out.mono ?_
    rintro e w1 ⟨rfl, rfl⟩
    clear c0
    go_wp2
    go_ret
    exact ⟨ret_b HR.out.symm, HB0.out⟩
end Go.Proofs.YtefggpdobjboeaaGreat

namespace Go.Proofs.YtefggpdobjboeaaGreat
open Go.RowKit Go.Shelf

/-- A function value that says p of divisors, in the world w and whatever follows it. -/
def CloL (P : Program) (w : World) (fv : Value) (p : List Int → Bool) : Prop :=
  ∃ fn caps, fv = .func (.func fn) #[] caps ∧ (∀ args W, (callFunc fn args).run P W = .ok (.enter fn args) W) ∧ ∀ W, Below w.heap.size w W → ∀ v zs, RI W v zs → Calls P fn (#[v] ++ caps) W fun e w' => e = .returned (.bool (p zs)) ∧ Below W.heap.size W w'
set_option maxRecDepth 100000 in
set_option maxHeartbeats 1000000 in
theorem indexDD_any (va fv : Value) (L : List (List Int)) (p : List Int → Bool) (w : World) (ha : RR w va L) (hf : CloL Tryz.prog w fv p) :
    Calls Tryz.prog 74 #[va, fv] w fun e w' => ∃ r : Int, e = .returned (.int .i64 r) ∧ decide (0 ≤ r) = L.any p ∧ Below w.heap.size w w' := by
  obtain ⟨A, c, rfl, hlc, hc, hcell⟩ := ha.open_
  obtain ⟨fn, caps, rfl, hen, hcall⟩ := hf
  have HA := Lib.hid hcell
  have HF := Lib.hid hcall
  clear hcell ha hcall
  go_enter Tryz.func74, Tryz.ntmps74
  go_wp2
  go_loopw [8] (fun i wr => ∃ k : Nat, k ≤ L.length ∧ i = .int .i64 k ∧ Hid ((L.drop k).any p = L.any p) ∧ Hid (Below w.heap.size w wr)) (fun i _ => L.length - (intOf i).toNat)
  case atStart => exact ⟨0, Nat.zero_le _, rfl, rfl, Below.refl _ _⟩
  case round =>
    obtain ⟨k, hk, rfl, he, hb⟩ := hrel
    by_cases hlt : k < L.length
    · obtain ⟨ad, zs, A1, c1, rfl, hab, hz, hcl, hri⟩ := HA.out k hlt
      have hcl1 : wr.cell? (ad.add k) = some (.slice A1 zs.length c1) := (hb.out.cell (by rw [block_of_add]; exact hab)).trans hcl
      have HC := Lib.hid (HF.out wr hb.out _ zs (RI.below hri hb.out))
      have hd : L.drop k = zs :: L.drop (k + 1) := by
        obtain ⟨h, h'⟩ := List.getElem?_eq_some_iff.1 hz.out
        rw [← h']; exact List.drop_eq_getElem_cons h
      have hee : L.any p = (p zs || (L.drop (k + 1)).any p) := by rw [← he.out, hd, List.any_cons]
      have habr : ad.block < wr.heap.size := by have := hb.out.size; omega
      clear HA HF hcl hri hd he
      cases hp : p zs
      · have HE := Lib.hid (hee.symm.trans rfl)
        rw [hp] at HE
        simp only [Bool.false_or] at HE
        clear hee
        go_wp2_with fail
        refine HC.out.mono ?_
        rw [hp]
        rintro e w1 ⟨rfl, hb1⟩
        have HB1 := Lib.hid (hb.out.trans (hb1.mono hb.out.size))
        clear hb1
        go_wp2
        go_roundw
        case rel => exact ⟨k + 1, by omega, by go_num, HE.out, HB1.out⟩
        case measure => simp [intOf]; omega
      · have HE : Hid (L.any p = true) := by show _ = _; rw [hee, hp]; rfl
        clear hee
        go_wp2_with fail
        refine HC.out.mono ?_
        rw [hp]
        rintro e w1 ⟨rfl, hb1⟩
        have HB1 := Lib.hid (hb.out.trans (hb1.mono hb.out.size))
        clear hb1
        go_wp2
        go_ret
        exact ⟨k, rfl, by rw [HE.out]; simp, HB1.out⟩
    · have HE : Hid (L.any p = false) := by show _ = _; rw [← he.out, List.drop_of_length_le (by omega)]; rfl
      go_wp2
      go_ret
      exact ⟨-1, rfl, by rw [HE.out]; rfl, hb.out⟩
set_option maxRecDepth 100000 in
theorem containsDD_any (va fv : Value) (L : List (List Int)) (p : List Int → Bool) (w : World) (ha : RR w va L) (hf : CloL Tryz.prog w fv p) :
    Calls Tryz.prog 36 #[va, fv] w fun e w' => e = .returned (.bool (L.any p)) ∧ Below w.heap.size w w' := by
  have HI := Lib.hid (indexDD_any va fv L p w ha hf)
  obtain ⟨A, c, rfl, -⟩ := ha.open_
  obtain ⟨fn, caps, rfl, -⟩ := hf
  clear ha
  go_enter Tryz.func36, Tryz.ntmps36
  go_wp2_with fail
  refine HI.out.mono ?_
  rintro e w1 ⟨r, rfl, hr, hb1⟩
  have HB1 := Lib.hid hb1
  have HR := Lib.hid hr
  clear hb1 hr
  go_wp2
  all_goals
    go_ret
    refine ⟨ret_b ?_, HB1.out⟩
    first | exact HR.out | (have := HR.out; rw [← this]; simp; omega)
/-- The closures of low and right. -/
theorem low1_clo (_g : Value) (n : Int) (es : List Tri) (b : Nat) (A : Option Addr) (c : Nat) (w : World) (hg : GV w (.agg #[.int .i64 n, .slice A es.length c]) n es) (hb : BL w b 24 [.int .i64 n, .slice A es.length c]) :
    CloL Tryz.prog w (.func (.func 37) #[] #[.pointer (some ⟨b, 0, none⟩)]) (fun zs => !lowB n zs) := by
  refine ⟨_, _, rfl, enters_of Tryz.func37 (by kernel_rfl) rfl, fun W hW v zs hv => ?_⟩
  obtain ⟨A2, c2, rfl, -⟩ := RI.open_ hv
  have HL := rLow_any _ _ n es zs W (hg.below hW) hv
  have hx := hb.bel hW
  have c0 := hx.cell 0
  have c1 := hx.cell 1
  clear hb hg hv hx hW
  show Calls Tryz.prog _ #[.slice A2 zs.length c2, .pointer (some ⟨b, 0, none⟩)] W _
  by_cases hl : lowB n zs = true
  · have HE : Hid ((!lowB n zs) = false) := by show _ = _; rw [hl]; rfl
    rw [hl] at HL
    have HL := Lib.hid HL
    clear hl
    go_enter Tryz.func37, Tryz.ntmps37
    go_wp2_with fail
    refine HL.out.mono ?_
    rintro e w1 ⟨rfl, hb1⟩
    have HB1 := Lib.hid hb1
    clear hb1
    go_wp2
    go_ret
    exact ⟨ret_b HE.out.symm, HB1.out⟩
  · have hl' : lowB n zs = false := by simpa using hl
    have HE : Hid ((!lowB n zs) = true) := by show _ = _; rw [hl']; rfl
    rw [hl'] at HL
    have HL := Lib.hid HL
    clear hl hl'
    go_enter Tryz.func37, Tryz.ntmps37
    go_wp2_with fail
    refine HL.out.mono ?_
    rintro e w1 ⟨rfl, hb1⟩
    have HB1 := Lib.hid hb1
    clear hb1
    go_wp2
    go_ret
    exact ⟨ret_b HE.out.symm, HB1.out⟩
theorem right1_clo (n : Int) (b : Nat) (A : Option Addr) (l c : Nat) (w : World) (hb : BL w b 24 [.int .i64 n, .slice A l c]) :
    CloL Tryz.prog w (.func (.func 65) #[] #[.pointer (some ⟨b, 0, none⟩)]) (fun zs => checkE zs n != 0) := by
  refine ⟨_, _, rfl, enters_of Tryz.func65 (by kernel_rfl) rfl, fun W hW v zs hv => ?_⟩
  obtain ⟨A2, c2, rfl, -⟩ := RI.open_ hv
  have HL := rCheck_any _ zs n W hv
  have c0 := (hb.bel hW).cell 0
  clear hb hv hW
  show Calls Tryz.prog _ #[.slice A2 zs.length c2, .pointer (some ⟨b, 0, none⟩)] W _
  by_cases hl : checkE zs n = 0
  · rw [hl] at HL
    have HL := Lib.hid HL
    have HE : Hid ((checkE zs n != 0) = false) := by show _ = _; rw [hl]; rfl
    clear hl
    go_enter Tryz.func65, Tryz.ntmps65
    go_wp2_with fail
    refine HL.out.mono ?_
    rintro e w1 ⟨rfl, rfl⟩
    go_wp2
    go_ret
    exact ⟨ret_b HE.out.symm, Below.refl _ _⟩
  · obtain ⟨r, hr⟩ : ∃ r, r = checkE zs n := ⟨_, rfl⟩
    have HE : Hid ((checkE zs n != 0) = true) := by show _ = _; simpa using hl
    rw [← hr] at HL hl
    have t : (r != 0) = true := by simpa using hl
    have HL := Lib.hid HL
    clear hl hr
    go_enter Tryz.func65, Tryz.ntmps65
    go_wp2_with fail
    refine HL.out.mono ?_
    rintro e w1 ⟨rfl, rfl⟩
    go_wp2
    go_ret
    exact ⟨ret_b HE.out.symm, Below.refl _ _⟩
/-- What low answers. -/
def lowP (n : Int) (es : List Tri) (L : List (List Int)) : Bool := fewB n es && !L.any fun zs => !lowB n zs
/-- What right answers. -/
def rightP (n : Int) (es : List Tri) (L : List (List Int)) : Bool := lowP n es L && (eGiven n es [] == 0) && !L.any fun zs => checkE zs n != 0
set_option maxRecDepth 100000 in
set_option maxHeartbeats 2000000 in
theorem low_any (g vl : Value) (n : Int) (es : List Tri) (L : List (List Int)) (w : World) (hg : GV w g n es) (hl : RR w vl L) :
    Calls Tryz.prog 9 #[g, vl] w fun e w' => e = .returned (.bool (lowP n es L)) ∧ Below w.heap.size w w' := by
  obtain ⟨A, c, rfl, -⟩ := hg.open_
  obtain ⟨A2, c2, rfl, -⟩ := hl.open_
  obtain ⟨W0, hW0⟩ : ∃ W0, W0 = w.alloc (.cells #[.int .i64 n, .slice A es.length c] 24) := ⟨_, rfl⟩
  have hb0 : Below w.heap.size w W0 := by rw [hW0]; exact below_alloc w _
  have hx0 : BL W0 w.heap.size 24 [.int .i64 n, .slice A es.length c] := by rw [hW0]; exact BL.new' w _ _
  have hf := rFew_any _ n es W0 (hg.below hb0)
  have c0 := hx0.cell 0
  have c1 := hx0.cell 1
  have HX0 := Lib.hid hx0
  have HG0 := Lib.hid (hg.below hb0)
  have HL0 := Lib.hid (RR.below hl hb0)
  have HB0 := Lib.hid hb0
  have HW0 := Lib.hid hW0
  rw [hW0] at c0 c1
  clear hg hl hb0 hx0 hW0
  by_cases hfb : fewB n es = true
  · rw [hfb] at hf
    have HF := Lib.hid hf
    have HE : Hid (lowP n es L = !L.any fun zs => !lowB n zs) := by show _ = _; unfold lowP; rw [hfb]; rfl
    clear hf hfb
    go_enter Tryz.func9, Tryz.ntmps9
    go_wp2_with fail
    rw [← HW0.out]
    refine HF.out.mono ?_
    rintro e w1 ⟨rfl, hb1⟩
    have hcl := low1_clo (.agg #[.int .i64 n, .slice A es.length c]) n es w.heap.size A c w1 (HG0.out.below hb1) (HX0.out.bel hb1)
    have hcc := containsDD_any _ _ L _ w1 (RR.below HL0.out hb1) hcl
    have HB1 := Lib.hid (HB0.out.trans (hb1.mono HB0.out.size))
    clear hb1 hcl c0 c1
    cases ha : L.any fun zs => !lowB n zs
    all_goals
      rw [ha] at hcc HE
      have HCc := Lib.hid hcc
      clear hcc ha
      go_wp2_with fail
      refine HCc.out.mono ?_
      rintro e w2 ⟨rfl, hb2⟩
      have HB2 := Lib.hid (HB1.out.trans (hb2.mono HB1.out.size))
      clear hb2
      go_wp2
      go_ret
      exact ⟨ret_b HE.out.symm, HB2.out⟩
  · have hfb' : fewB n es = false := by simpa using hfb
    rw [hfb'] at hf
    have HF := Lib.hid hf
    have HE : Hid (lowP n es L = false) := by show _ = _; unfold lowP; rw [hfb']; rfl
    clear hf hfb hfb'
    go_enter Tryz.func9, Tryz.ntmps9
    go_wp2_with fail
    rw [← HW0.out]
    refine HF.out.mono ?_
    rintro e w1 ⟨rfl, hb1⟩
    have HB1 := Lib.hid (HB0.out.trans (hb1.mono HB0.out.size))
    clear hb1 c0 c1
    go_wp2
    go_ret
    exact ⟨ret_b HE.out.symm, HB1.out⟩
set_option maxRecDepth 100000 in
set_option maxHeartbeats 2000000 in
theorem right_any (g vl : Value) (n : Int) (es : List Tri) (L : List (List Int)) (w : World) (hg : GV w g n es) (hl : RR w vl L) :
    Calls Tryz.prog 24 #[g, vl] w fun e w' => e = .returned (.bool (rightP n es L)) ∧ Below w.heap.size w w' := by
  obtain ⟨A, c, rfl, -⟩ := hg.open_
  obtain ⟨A2, c2, rfl, -⟩ := hl.open_
  obtain ⟨W0, hW0⟩ : ∃ W0, W0 = w.alloc (.cells #[.int .i64 n, .slice A es.length c] 24) := ⟨_, rfl⟩
  have hb0 : Below w.heap.size w W0 := by rw [hW0]; exact below_alloc w _
  have hx0 : BL W0 w.heap.size 24 [.int .i64 n, .slice A es.length c] := by rw [hW0]; exact BL.new' w _ _
  have hf := low_any _ _ n es L W0 (hg.below hb0) (RR.below hl hb0)
  have c0 := hx0.cell 0
  have c1 := hx0.cell 1
  have HX0 := Lib.hid hx0
  have HG0 := Lib.hid (hg.below hb0)
  have HL0 := Lib.hid (RR.below hl hb0)
  have HB0 := Lib.hid hb0
  have HW0 := Lib.hid hW0
  rw [hW0] at c0 c1
  clear hg hl hb0 hx0 hW0
  by_cases hfb : lowP n es L = true
  · rw [hfb] at hf
    have HF := Lib.hid hf
    have HE : Hid (rightP n es L = ((eGiven n es [] == 0) && !L.any fun zs => checkE zs n != 0)) := by show _ = _; unfold rightP; rw [hfb]; rfl
    clear hf hfb
    go_enter Tryz.func24, Tryz.ntmps24
    go_wp2_with fail
    rw [← HW0.out]
    refine HF.out.mono ?_
    rintro e w1 ⟨rfl, hb1⟩
    have hx1 := HX0.out.bel hb1
    have d0 := hx1.cell 0
    have d1 := hx1.cell 1
    have hj := rJoined_any _ n es w1 (HG0.out.below hb1)
    have HX1 := Lib.hid hx1
    have HL1 := Lib.hid (RR.below HL0.out hb1)
    have HB1 := Lib.hid (HB0.out.trans (hb1.mono HB0.out.size))
    clear hb1 hx1 c0 c1
    by_cases hjz : eGiven n es [] = 0
    · rw [hjz] at hj HE
      have HJ := Lib.hid hj
      clear hj hjz
      go_wp2_with fail
      refine HJ.out.mono ?_
      rintro e w2 ⟨rfl, hb2⟩
      have hcl := right1_clo n w.heap.size A es.length c w2 (HX1.out.bel hb2)
      have hcc := containsDD_any _ _ L _ w2 (RR.below HL1.out hb2) hcl
      have HB2 := Lib.hid (HB1.out.trans (hb2.mono HB1.out.size))
      clear hb2 hcl d0 d1
      cases ha : L.any fun zs => checkE zs n != 0
      all_goals
        rw [ha] at hcc HE
        have HCc := Lib.hid hcc
        clear hcc ha
        go_wp2_with fail
        refine HCc.out.mono ?_
        rintro e w3 ⟨rfl, hb3⟩
        have HB3 := Lib.hid (HB2.out.trans (hb3.mono HB2.out.size))
        clear hb3
        go_wp2
        go_ret
        exact ⟨ret_b HE.out.symm, HB3.out⟩
    · obtain ⟨r, hr⟩ : ∃ r, r = eGiven n es [] := ⟨_, rfl⟩
      rw [← hr] at hj HE hjz
      have t : (r == 0) = false := by simpa using hjz
      have HE2 : Hid (rightP n es L = false) := by show _ = _; rw [HE.out, t]; rfl
      have HJ := Lib.hid hj
      clear hj hjz hr HE
      go_wp2_with fail
      refine HJ.out.mono ?_
      rintro e w2 ⟨rfl, hb2⟩
      have HB2 := Lib.hid (HB1.out.trans (hb2.mono HB1.out.size))
      clear hb2 d0 d1
      go_wp2
      go_ret
      exact ⟨ret_b HE2.out.symm, HB2.out⟩
  · have hfb' : lowP n es L = false := by simpa using hfb
    rw [hfb'] at hf
    have HF := Lib.hid hf
    have HE : Hid (rightP n es L = false) := by show _ = _; unfold rightP; rw [hfb']; rfl
    clear hf hfb hfb'
    go_enter Tryz.func24, Tryz.ntmps24
    go_wp2_with fail
    rw [← HW0.out]
    refine HF.out.mono ?_
    rintro e w1 ⟨rfl, hb1⟩
    have HB1 := Lib.hid (HB0.out.trans (hb1.mono HB0.out.size))
    clear hb1 c0 c1
    go_wp2
    go_ret
    exact ⟨ret_b HE.out.symm, HB1.out⟩
end Go.Proofs.YtefggpdobjboeaaGreat

namespace Go.Proofs.YtefggpdobjboeaaGreat
open Go.RowKit Go.Shelf

def tallB (z : Int) : Bool := decide (z < -4) || decide (4 < z)
theorem rightP_iff {n : Int} {es : List Tri} {L : List (List Int)} (h : rightP n es L = true) : Sm n es ∧ eGiven n es [] = 0 ∧ ∀ zs ∈ L, checkE zs n = 0 ∧ Lw n zs := by
  unfold rightP lowP at h
  simp only [Bool.and_eq_true, beq_iff_eq, Bool.not_eq_true', List.any_eq_false] at h
  obtain ⟨⟨⟨h1, h2⟩, h3⟩, h4⟩ := h
  refine ⟨fewB_sm h1, h3, fun zs hz => ⟨?_, lowB_lw ?_⟩⟩
  · have := h4 zs hz; simpa using this
  · have := h2 zs hz; simpa using this
theorem eGiven_of {n : Int} {es : List Tri} (h : eGiven n es [] = 0) {L : List (List Int)} (hL : ∀ zs ∈ L, checkE zs n = 0) : eGiven n es L = 0 := by
  obtain ⟨h1, h2, -⟩ := eGiven_ok h
  unfold eGiven
  rw [if_neg (by simpa using h1), if_neg (by simp [h2])]
  induction L with
  | nil => rfl
  | cons z r ih =>
    rw [firstE, if_neg (by simpa using hL z (by simp))]
    exact ih fun x hx => hL x (List.mem_cons_of_mem _ hx)
theorem checkE_of {zs : List Int} {m : Nat} (h1 : 1 ≤ m) (h12 : m ≤ 12) (hl : zs.length = m) (hb : ∀ z ∈ zs, InB z = true) : checkE zs m = 0 := by
  unfold checkE
  rw [if_neg (by omega), if_neg (by simp [hl]), if_pos (List.all_eq_true.2 hb)]
theorem es_le {m : Nat} {es : List Tri} (h : Rt m es) : es.length ≤ 9 := by
  have : ∀ l : List Tri, (∀ t ∈ l, 1 ≤ t.2.2) → (l.length : Int) ≤ multS l := by
    intro l
    induction l with
    | nil => intro _; exact Int.le_refl 0
    | cons t r ih =>
      intro hl
      have := ih fun x hx => hl x (List.mem_cons_of_mem _ hx)
      have ht := hl t (by simp)
      rw [multS_cons, List.length_cons]; push_cast; omega
  have := this es fun t ht => (h.ed.mult t ht).1
  have := h.m9
  omega
theorem bd_inB {B : Int} {zs : List Int} (h : Bd B zs) (hB : B ≤ 1048576) : ∀ z ∈ zs, InB z = true := by
  intro z hz
  obtain ⟨k, hk, rfl⟩ := List.mem_iff_getElem.1 hz
  have := h k
  rw [List.getD_eq_getElem?_getD, List.getElem?_eq_getElem hk] at this
  simp only [Option.getD_some] at this
  rw [inB_iff]; omega
theorem mem_bd {B : Int} {zs : List Int} (hB : 0 ≤ B) (h : ∀ z ∈ zs, -B ≤ z ∧ z ≤ B) : Bd B zs := bd_mem hB h
/-- What a small script makes of a small divisor. -/
theorem apply_ok {m : Nat} {es : List Tri} {a s : List Int} (h : Rt m es) (ha : checkE a m = 0) (hb : Bd 100 a) (hl : s.length = m) (hs : ∀ z ∈ s, -4 ≤ z ∧ z ≤ 4) :
    ∃ b, applyL m es a s = (b, 0) ∧ b.length = m ∧ Way m es a b (fun v => s.getD v 0) := by
  obtain ⟨_, h12, hal, _⟩ := checkE_ok ha
  have hal' : a.length = m := by omega
  have hsb : Bd 4 s := mem_bd (by decide) hs
  have hcs : checkE s m = 0 := checkE_of h.n1 (by omega) hl (bd_inB hsb (by decide))
  have hmb := moveE_bd (S := 4) (B := 100) hal' h.ed.ends h.ed.mult hsb hb
  have hes := es_le h
  have hin : (moveE s es a).all InB = true := List.all_eq_true.2 (bd_inB hmb (by omega))
  refine ⟨moveE s es a, ?_, by rw [moveE_len]; exact hal', fun v hv => ?_⟩
  · have g1 : fGiven m es a = 0 := by unfold fGiven; rw [if_neg (by simpa using h.gc), ha]
    have g2 : fGiven m es s = 0 := by unfold fGiven; rw [if_neg (by simpa using h.gc), hcs]
    unfold applyL
    rw [if_neg (by simpa using g1), if_neg (by simpa using g2)]
    unfold bndL
    rw [if_pos hin]
  · rw [moveE_get hal' h.ed.ends v, ← lap_edges h.ed.ends]
    omega
theorem leastE_ok {m : Nat} {s : List Int} (h1 : 1 ≤ m) (h12 : m ≤ 12) (hl : s.length = m) (hs : ∀ z ∈ s, InB z = true) : leastE s = (leastL s, 0) := by
  unfold leastE
  rw [if_neg (by omega), if_pos (List.all_eq_true.2 hs)]
theorem fires_eqv {m : Nat} {es : List Tri} {a b s u : List Int} {bb : Bool} {er : Int} (hr : Rt m es) (h : EqvP m es a b bb u er) (h0 : eGiven m es [a, b] = 0) (hl : s.length = m) (hw : Way m es a b (fun v => s.getD v 0)) : er = 0 ∧ bb = true ∧ u = leastL s := by
  obtain ⟨he, m', hm, hr', h⟩ := h.ok h0
  obtain rfl : m = m' := by omega
  rcases h with ⟨hb, _, h⟩ | ⟨_, hn, _⟩
  · have hu := h _ hw
    have hls := leastL_of (s := s) (by have := hr.n1; omega)
    rw [hl] at hls
    exact ⟨he, hb, hu.uniq hls (c := 0) fun v _ => by simp⟩
  · exact absurd ⟨_, hw⟩ hn
theorem fires_not {m : Nat} {es : List Tri} {a b c u : List Int} {t : Nat → Int} {bb : Bool} {er : Int} (hr : Rt m es) (h : EqvP m es a c bb u er) (h0 : eGiven m es [a, c] = 0) (hw : Way m es a b t) (hc : ∀ v, v < m → c.getD v 0 = b.getD v 0 + if v = 0 then 1 else 0) : er = 0 ∧ bb = false ∧ u = [] := by
  obtain ⟨he, m', hm, hr', h⟩ := h.ok h0
  obtain rfl : m = m' := by omega
  rcases h with ⟨_, ⟨t', ht'⟩, _⟩ | ⟨hb, _, hu⟩
  · exfalso
    have e1 : sumN m (fun v => lap m (wgt es) t v) = 0 := lap_sum (wgt_sym es) t
    have e2 : sumN m (fun v => lap m (wgt es) t' v) = 0 := lap_sum (wgt_sym es) t'
    have e3 : sumN m (fun v => lap m (wgt es) t v) = sumN m (fun v => lap m (wgt es) t' v + if v = 0 then 1 else 0) := sumN_congr fun v hv => by
      rw [← hw v hv, ← ht' v hv, hc v hv]; omega
    have e4 : ∀ k, 1 ≤ k → sumN k (fun v => lap m (wgt es) t' v + if v = 0 then 1 else 0) = sumN k (fun v => lap m (wgt es) t' v) + 1 := by
      intro k hk
      induction k with
      | zero => omega
      | succ k ih =>
        by_cases hk0 : k = 0
        · subst hk0; simp [sumN]
        · simp only [sumN]
          rw [ih (by omega), if_neg hk0]; omega
    rw [e4 m hr.n1] at e3
    omega
  · exact ⟨he, hb, hu⟩
end Go.Proofs.YtefggpdobjboeaaGreat
