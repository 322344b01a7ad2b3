/- Contracts of the laws' own helpers: low, right.
   Contracts of the references' In, Script, Given, Both of layers 15 and 35.
   Contracts of the references' Valence, entry, Moved.
   Contract of the reference's Moved: the image of a script.
   Contracts of the references' Plus, Applied, Leads.
   The law Fires in plain words.
   Contracts of the references' Least and Verify of layer 35: they answer as the functions do.
   A list of lists of ints of the call's own: each row a slice of its own, and one append.
   Contract of read, at the text of a number.
   Contracts of Mul, Sub. (printed by gen/both.py)
   Contract of Quo where the quotient is exact. -/
import Derived.Test.YtjfggodnfoknfaaGreatDoorM26
import Derived.Test.YtjfggodnfoknfaaGreatDoorM25
set_option maxRecDepth 100000
set_option maxHeartbeats 16000000
namespace Go.Proofs.YtjfggodnfoknfaaGreatDoor
open Go.RowKit Go.Shelf

/-- A function value that says p of divisors, in the world w and whatever follows it. -/
def CloL (P : Program) (w : World) (fv : Value) (p : List Int → Bool) : Prop :=
  ∃ fn caps, fv = .func (.func fn) #[] caps ∧ (∀ args W, (callFunc fn args).run P W = .ok (.enter fn args) W) ∧ ∀ W, Below w.heap.size w W → ∀ v zs, RI W v zs → Calls P fn (#[v] ++ caps) W fun e w' => e = .returned (.bool (p zs)) ∧ Below W.heap.size W w'
theorem indexDD_any (va fv : Value) (L : List (List Int)) (p : List Int → Bool) (w : World) (ha : RR w va L) (hf : CloL Tryz.prog w fv p) :
    Calls Tryz.prog 42 #[va, fv] w fun e w' => ∃ r : Int, e = .returned (.int .i64 r) ∧ decide (0 ≤ r) = L.any p ∧ Below w.heap.size w w' := by
  obtain ⟨A, c, rfl, hlc, hc, hcell⟩ := ha.open_
  obtain ⟨fn, caps, rfl, hen, hcall⟩ := hf
  have HA := Lib.hid hcell
  have HF := Lib.hid hcall
  clear hcell ha hcall
  go_enter Tryz.func42, Tryz.ntmps42
  go_wp2
  go_loopw [8] (fun i wr => ∃ k : Nat, k ≤ L.length ∧ i = .int .i64 k ∧ Hid ((L.drop k).any p = L.any p) ∧ Hid (Below w.heap.size w wr)) (fun i _ => L.length - (intOf i).toNat)
  case atStart => exact ⟨0, Nat.zero_le _, rfl, rfl, Below.refl _ _⟩
  case round =>
    obtain ⟨k, hk, rfl, he, hb⟩ := hrel
    by_cases hlt : k < L.length
    · obtain ⟨ad, zs, A1, c1, rfl, hab, hz, hcl, hri⟩ := HA.out k hlt
      have hcl1 : wr.cell? (ad.add k) = some (.slice A1 zs.length c1) := (hb.out.cell (by rw [block_of_add]; exact hab)).trans hcl
      have HC := Lib.hid (HF.out wr hb.out _ zs (RI.below hri hb.out))
      have hd : L.drop k = zs :: L.drop (k + 1) := by
        obtain ⟨h, h'⟩ := List.getElem?_eq_some_iff.1 hz.out
        rw [← h']; exact List.drop_eq_getElem_cons h
      have hee : L.any p = (p zs || (L.drop (k + 1)).any p) := by rw [← he.out, hd, List.any_cons]
      have habr : ad.block < wr.heap.size := by have := hb.out.size; omega
      clear HA HF hcl hri hd he
      cases hp : p zs
      · have HE := Lib.hid (hee.symm.trans rfl)
        rw [hp] at HE
        simp only [Bool.false_or] at HE
        clear hee
        go_wp2_with fail
        refine HC.out.mono ?_
        rw [hp]
        rintro e w1 ⟨rfl, hb1⟩
        have HB1 := Lib.hid (hb.out.trans (hb1.mono hb.out.size))
        clear hb1
        go_wp2
        go_roundw
        case rel => exact ⟨k + 1, by omega, by go_num, HE.out, HB1.out⟩
        case measure => simp [intOf]; omega
      · have HE : Hid (L.any p = true) := by show _ = _; rw [hee, hp]; rfl
        clear hee
        go_wp2_with fail
        refine HC.out.mono ?_
        rw [hp]
        rintro e w1 ⟨rfl, hb1⟩
        have HB1 := Lib.hid (hb.out.trans (hb1.mono hb.out.size))
        clear hb1
        go_wp2
        go_ret
        exact ⟨k, rfl, by rw [HE.out]; simp, HB1.out⟩
    · have HE : Hid (L.any p = false) := by show _ = _; rw [← he.out, List.drop_of_length_le (by omega)]; rfl
      go_wp2
      go_ret
      exact ⟨-1, rfl, by rw [HE.out]; rfl, hb.out⟩
theorem containsDD_any (va fv : Value) (L : List (List Int)) (p : List Int → Bool) (w : World) (ha : RR w va L) (hf : CloL Tryz.prog w fv p) :
    Calls Tryz.prog 18 #[va, fv] w fun e w' => e = .returned (.bool (L.any p)) ∧ Below w.heap.size w w' := by
  have HI := Lib.hid (indexDD_any va fv L p w ha hf)
  obtain ⟨A, c, rfl, -⟩ := ha.open_
  obtain ⟨fn, caps, rfl, -⟩ := hf
  clear ha
  go_enter Tryz.func18, Tryz.ntmps18
  go_wp2_with fail
  refine HI.out.mono ?_
  rintro e w1 ⟨r, rfl, hr, hb1⟩
  have HB1 := Lib.hid hb1
  have HR := Lib.hid hr
  clear hb1 hr
  go_wp2
  all_goals
    go_ret
    refine ⟨ret_b ?_, HB1.out⟩
    first | exact HR.out | (have := HR.out; rw [← this]; simp; omega)
/-- The closures of low and right. -/
theorem low1_clo (_g : Value) (n : Int) (es : List Tri) (b : Nat) (A : Option Addr) (c : Nat) (w : World) (hg : GV w (.agg #[.int .i64 n, .slice A es.length c]) n es) (hb : BL w b 24 [.int .i64 n, .slice A es.length c]) :
    CloL Tryz.prog w (.func (.func 38) #[] #[.pointer (some ⟨b, 0, none⟩)]) (fun zs => !lowB n zs) := by
  refine ⟨_, _, rfl, enters_of Tryz.func38 (by kernel_rfl) rfl, fun W hW v zs hv => ?_⟩
  obtain ⟨A2, c2, rfl, -⟩ := RI.open_ hv
  have HL := rLow_any _ _ n es zs W (hg.below hW) hv
  have hx := hb.bel hW
  have c0 := hx.cell 0
  have c1 := hx.cell 1
  clear hb hg hv hx hW
  show Calls Tryz.prog _ #[.slice A2 zs.length c2, .pointer (some ⟨b, 0, none⟩)] W _
  by_cases hl : lowB n zs = true
  · have HE : Hid ((!lowB n zs) = false) := by show _ = _; rw [hl]; rfl
    rw [hl] at HL
    have HL := Lib.hid HL
    clear hl
    go_enter Tryz.func38, Tryz.ntmps38
    go_wp2_with fail
    refine HL.out.mono ?_
    rintro e w1 ⟨rfl, hb1⟩
    have HB1 := Lib.hid hb1
    clear hb1
    go_wp2
    go_ret
    exact ⟨ret_b HE.out.symm, HB1.out⟩
  · have hl' : lowB n zs = false := by simpa using hl
    have HE : Hid ((!lowB n zs) = true) := by show _ = _; rw [hl']; rfl
    rw [hl'] at HL
    have HL := Lib.hid HL
    clear hl hl'
    go_enter Tryz.func38, Tryz.ntmps38
    go_wp2_with fail
    refine HL.out.mono ?_
    rintro e w1 ⟨rfl, hb1⟩
    have HB1 := Lib.hid hb1
    clear hb1
    go_wp2
    go_ret
    exact ⟨ret_b HE.out.symm, HB1.out⟩
theorem right1_clo (n : Int) (b : Nat) (A : Option Addr) (l c : Nat) (w : World) (hb : BL w b 24 [.int .i64 n, .slice A l c]) :
    CloL Tryz.prog w (.func (.func 19) #[] #[.pointer (some ⟨b, 0, none⟩)]) (fun zs => checkE zs n != 0) := by
  refine ⟨_, _, rfl, enters_of Tryz.func19 (by kernel_rfl) rfl, fun W hW v zs hv => ?_⟩
  obtain ⟨A2, c2, rfl, -⟩ := RI.open_ hv
  have HL := rCheck_any _ zs n W hv
  have c0 := (hb.bel hW).cell 0
  clear hb hv hW
  show Calls Tryz.prog _ #[.slice A2 zs.length c2, .pointer (some ⟨b, 0, none⟩)] W _
  by_cases hl : checkE zs n = 0
  · rw [hl] at HL
    have HL := Lib.hid HL
    have HE : Hid ((checkE zs n != 0) = false) := by show _ = _; rw [hl]; rfl
    clear hl
    go_enter Tryz.func19, Tryz.ntmps19
    go_wp2_with fail
    refine HL.out.mono ?_
    rintro e w1 ⟨rfl, rfl⟩
    go_wp2
    go_ret
    exact ⟨ret_b HE.out.symm, Below.refl _ _⟩
  · obtain ⟨r, hr⟩ : ∃ r, r = checkE zs n := ⟨_, rfl⟩
    have HE : Hid ((checkE zs n != 0) = true) := by show _ = _; simpa using hl
    rw [← hr] at HL hl
    have t : (r != 0) = true := by simpa using hl
    have HL := Lib.hid HL
    clear hl hr
    go_enter Tryz.func19, Tryz.ntmps19
    go_wp2_with fail
    refine HL.out.mono ?_
    rintro e w1 ⟨rfl, rfl⟩
    go_wp2
    go_ret
    exact ⟨ret_b HE.out.symm, Below.refl _ _⟩
/-- What low answers. -/
def lowP (n : Int) (es : List Tri) (L : List (List Int)) : Bool := fewB n es && !L.any fun zs => !lowB n zs
/-- What right answers. -/
def rightP (n : Int) (es : List Tri) (L : List (List Int)) : Bool := lowP n es L && (eGiven n es [] == 0) && !L.any fun zs => checkE zs n != 0
theorem low_any (g vl : Value) (n : Int) (es : List Tri) (L : List (List Int)) (w : World) (hg : GV w g n es) (hl : RR w vl L) :
    Calls Tryz.prog 16 #[g, vl] w fun e w' => e = .returned (.bool (lowP n es L)) ∧ Below w.heap.size w w' := by
  obtain ⟨A, c, rfl, -⟩ := hg.open_
  obtain ⟨A2, c2, rfl, -⟩ := hl.open_
  obtain ⟨W0, hW0⟩ : ∃ W0, W0 = w.alloc (.cells #[.int .i64 n, .slice A es.length c] 24) := ⟨_, rfl⟩
  have hb0 : Below w.heap.size w W0 := by rw [hW0]; exact below_alloc w _
  have hx0 : BL W0 w.heap.size 24 [.int .i64 n, .slice A es.length c] := by rw [hW0]; exact BL.new' w _ _
  have hf := rFew_any _ n es W0 (hg.below hb0)
  have c0 := hx0.cell 0
  have c1 := hx0.cell 1
  have HX0 := Lib.hid hx0
  have HG0 := Lib.hid (hg.below hb0)
  have HL0 := Lib.hid (RR.below hl hb0)
  have HB0 := Lib.hid hb0
  have HW0 := Lib.hid hW0
  rw [hW0] at c0 c1
  clear hg hl hb0 hx0 hW0
  by_cases hfb : fewB n es = true
  · rw [hfb] at hf
    have HF := Lib.hid hf
    have HE : Hid (lowP n es L = !L.any fun zs => !lowB n zs) := by show _ = _; unfold lowP; rw [hfb]; rfl
    clear hf hfb
    go_enter Tryz.func16, Tryz.ntmps16
    go_wp2_with fail
    rw [← HW0.out]
    refine HF.out.mono ?_
    rintro e w1 ⟨rfl, hb1⟩
    have hcl := low1_clo (.agg #[.int .i64 n, .slice A es.length c]) n es w.heap.size A c w1 (HG0.out.below hb1) (HX0.out.bel hb1)
    have hcc := containsDD_any _ _ L _ w1 (RR.below HL0.out hb1) hcl
    have HB1 := Lib.hid (HB0.out.trans (hb1.mono HB0.out.size))
    clear hb1 hcl c0 c1
    cases ha : L.any fun zs => !lowB n zs
    all_goals
      rw [ha] at hcc HE
      have HCc := Lib.hid hcc
      clear hcc ha
      go_wp2_with fail
      refine HCc.out.mono ?_
      rintro e w2 ⟨rfl, hb2⟩
      have HB2 := Lib.hid (HB1.out.trans (hb2.mono HB1.out.size))
      clear hb2
      go_wp2
      go_ret
      exact ⟨ret_b HE.out.symm, HB2.out⟩
  · have hfb' : fewB n es = false := by simpa using hfb
    rw [hfb'] at hf
    have HF := Lib.hid hf
    have HE : Hid (lowP n es L = false) := by show _ = _; unfold lowP; rw [hfb']; rfl
    clear hf hfb hfb'
    go_enter Tryz.func16, Tryz.ntmps16
    go_wp2_with fail
    rw [← HW0.out]
    refine HF.out.mono ?_
    rintro e w1 ⟨rfl, hb1⟩
    have HB1 := Lib.hid (HB0.out.trans (hb1.mono HB0.out.size))
    clear hb1 c0 c1
    go_wp2
    go_ret
    exact ⟨ret_b HE.out.symm, HB1.out⟩
theorem right_any (g vl : Value) (n : Int) (es : List Tri) (L : List (List Int)) (w : World) (hg : GV w g n es) (hl : RR w vl L) :
    Calls Tryz.prog 4 #[g, vl] w fun e w' => e = .returned (.bool (rightP n es L)) ∧ Below w.heap.size w w' := by
  obtain ⟨A, c, rfl, -⟩ := hg.open_
  obtain ⟨A2, c2, rfl, -⟩ := hl.open_
  obtain ⟨W0, hW0⟩ : ∃ W0, W0 = w.alloc (.cells #[.int .i64 n, .slice A es.length c] 24) := ⟨_, rfl⟩
  have hb0 : Below w.heap.size w W0 := by rw [hW0]; exact below_alloc w _
  have hx0 : BL W0 w.heap.size 24 [.int .i64 n, .slice A es.length c] := by rw [hW0]; exact BL.new' w _ _
  have hf := low_any _ _ n es L W0 (hg.below hb0) (RR.below hl hb0)
  have c0 := hx0.cell 0
  have c1 := hx0.cell 1
  have HX0 := Lib.hid hx0
  have HG0 := Lib.hid (hg.below hb0)
  have HL0 := Lib.hid (RR.below hl hb0)
  have HB0 := Lib.hid hb0
  have HW0 := Lib.hid hW0
  rw [hW0] at c0 c1
  clear hg hl hb0 hx0 hW0
  by_cases hfb : lowP n es L = true
  · rw [hfb] at hf
    have HF := Lib.hid hf
    have HE : Hid (rightP n es L = ((eGiven n es [] == 0) && !L.any fun zs => checkE zs n != 0)) := by show _ = _; unfold rightP; rw [hfb]; rfl
    clear hf hfb
    go_enter Tryz.func4, Tryz.ntmps4
    go_wp2_with fail
    rw [← HW0.out]
    refine HF.out.mono ?_
    rintro e w1 ⟨rfl, hb1⟩
    have hx1 := HX0.out.bel hb1
    have d0 := hx1.cell 0
    have d1 := hx1.cell 1
    have hj := rJoined_any _ n es w1 (HG0.out.below hb1)
    have HX1 := Lib.hid hx1
    have HL1 := Lib.hid (RR.below HL0.out hb1)
    have HB1 := Lib.hid (HB0.out.trans (hb1.mono HB0.out.size))
    clear hb1 hx1 c0 c1
    by_cases hjz : eGiven n es [] = 0
    · rw [hjz] at hj HE
      have HJ := Lib.hid hj
      clear hj hjz
      go_wp2_with fail
      refine HJ.out.mono ?_
      rintro e w2 ⟨rfl, hb2⟩
      have hcl := right1_clo n w.heap.size A es.length c w2 (HX1.out.bel hb2)
      have hcc := containsDD_any _ _ L _ w2 (RR.below HL1.out hb2) hcl
      have HB2 := Lib.hid (HB1.out.trans (hb2.mono HB1.out.size))
      clear hb2 hcl d0 d1
      cases ha : L.any fun zs => checkE zs n != 0
      all_goals
        rw [ha] at hcc HE
        have HCc := Lib.hid hcc
        clear hcc ha
        go_wp2_with fail
        refine HCc.out.mono ?_
        rintro e w3 ⟨rfl, hb3⟩
        have HB3 := Lib.hid (HB2.out.trans (hb3.mono HB2.out.size))
        clear hb3
        go_wp2
        go_ret
        exact ⟨ret_b HE.out.symm, HB3.out⟩
    · obtain ⟨r, hr⟩ : ∃ r, r = eGiven n es [] := ⟨_, rfl⟩
      rw [← hr] at hj HE hjz
      have t : (r == 0) = false := by simpa using hjz
      have HE2 : Hid (rightP n es L = false) := by show _ = _; rw [HE.out, t]; rfl
      have HJ := Lib.hid hj
      clear hj hjz hr HE
      go_wp2_with fail
      refine HJ.out.mono ?_
      rintro e w2 ⟨rfl, hb2⟩
      have HB2 := Lib.hid (HB1.out.trans (hb2.mono HB1.out.size))
      clear hb2 d0 d1
      go_wp2
      go_ret
      exact ⟨ret_b HE2.out.symm, HB2.out⟩
  · have hfb' : lowP n es L = false := by simpa using hfb
    rw [hfb'] at hf
    have HF := Lib.hid hf
    have HE : Hid (rightP n es L = false) := by show _ = _; unfold rightP; rw [hfb']; rfl
    clear hf hfb hfb'
    go_enter Tryz.func4, Tryz.ntmps4
    go_wp2_with fail
    rw [← HW0.out]
    refine HF.out.mono ?_
    rintro e w1 ⟨rfl, hb1⟩
    have HB1 := Lib.hid (HB0.out.trans (hb1.mono HB0.out.size))
    clear hb1 c0 c1
    go_wp2
    go_ret
    exact ⟨ret_b HE.out.symm, HB1.out⟩
end Go.Proofs.YtjfggodnfoknfaaGreatDoor

namespace Go.Proofs.YtjfggodnfoknfaaGreatDoor
open Go.RowKit Go.Shelf

/-- What Script answers. -/
def scrE (n : Int) (s : List Int) : Int := if (s.length : Int) ≠ n then 8 else if s.all InB then 0 else 2
theorem scrE_check {n : Nat} (h1 : 1 ≤ n) (h12 : n ≤ 12) (s : List Int) : scrE n s = checkE s n := by
  unfold scrE checkE
  rw [if_neg (show ¬ ((n : Int) < 1 ∨ 12 < (n : Int)) by omega)]
end Go.Proofs.YtjfggodnfoknfaaGreatDoor

namespace Go.Proofs.YtjfggodnfoknfaaGreatDoor
open Go.RowKit Go.Shelf

/-- How many edges join v to the first k vertices but itself. -/
def valK (es : List Tri) (v k : Nat) : Int := sumN k fun u => if u = v then 0 else wgt es u v
/-- An entry of the Laplacian. -/
def entE (n : Nat) (es : List Tri) (i k : Nat) : Int := if i = k then valK es i n else - wgt es i k
theorem wgt_le {n : Nat} {es : List Tri} (hE : Edges n es) {u v : Nat} (h : u ≠ v) : 0 ≤ wgt es u v ∧ wgt es u v ≤ 50 := by
  rw [← btw_wgt hE h]; exact btw_le hE _ _
theorem valK_le {n : Nat} {es : List Tri} (hE : Edges n es) (v k : Nat) : 0 ≤ valK es v k ∧ valK es v k ≤ 50 * k := by
  unfold valK
  induction k with
  | zero => exact ⟨Int.le_refl 0, Int.le_refl 0⟩
  | succ k ih =>
    simp only [sumN]
    by_cases h : k = v
    · rw [if_pos h]; push_cast; omega
    · rw [if_neg h]; have := wgt_le hE h; push_cast; omega
/-- A part of a sum of the image of a script. -/
def movK (n : Nat) (es : List Tri) (s : List Int) (i k : Nat) : Int := sumN k fun j => entE n es i j * s.getD j 0
def movL (n : Nat) (es : List Tri) (s : List Int) : List Int := (List.range n).map fun i => movK n es s i n
theorem movL_get {n : Nat} (es : List Tri) (s : List Int) {i : Nat} (h : i < n) : (movL n es s).getD i 0 = movK n es s i n := by
  simp [movL, List.getD_eq_getElem?_getD, h]

end Go.Proofs.YtjfggodnfoknfaaGreatDoor

namespace Go.Proofs.YtjfggodnfoknfaaGreatDoor
open Go.RowKit Go.Shelf

theorem entE_lap (n : Nat) (es : List Tri) (i k : Nat) : entE n es i k = lapT n (wgt es) i k := by
  unfold entE lapT valK
  by_cases h : i = k
  · rw [if_pos h]; subst h
    rw [if_pos rfl, wgt_self, Int.sub_zero]
    refine sumN_congr fun u _ => ?_
    by_cases e : u = i
    · rw [if_pos e, e, wgt_self]
    · rw [if_neg e]; exact wgt_sym es u i
  · rw [if_neg h, if_neg h]; omega
theorem movK_lap {n : Nat} (es : List Tri) (s : List Int) {i : Nat} (hi : i < n) : movK n es s i n = lap n (wgt es) (fun u => s.getD u 0) i := by
  rw [lap_table hi]
  exact sumN_congr fun u _ => by rw [entE_lap]
end Go.Proofs.YtjfggodnfoknfaaGreatDoor

namespace Go.Proofs.YtjfggodnfoknfaaGreatDoor
open Go.RowKit Go.Shelf

/-- What Plus makes. -/
def plusL (a b : List Int) (k : Int) : List Int := List.zipWith (fun x y => x + k * y) a b
/-- What Applied makes. -/
def appL (n : Nat) (es : List Tri) (d s : List Int) : List Int := plusL d (movL n es s) (-1)
theorem movL_len (n : Nat) (es : List Tri) (s : List Int) : (movL n es s).length = n := by simp [movL]
theorem appL_get {n : Nat} (es : List Tri) {d : List Int} (s : List Int) (hd : d.length = n) {v : Nat} (hv : v < n) : (appL n es d s).getD v 0 = d.getD v 0 - lap n (wgt es) (fun u => s.getD u 0) v := by
  have h := movL_get es s hv
  rw [movK_lap es s hv] at h
  unfold appL plusL
  rw [List.getD_eq_getElem?_getD] at h ⊢
  rw [List.getElem?_zipWith, List.getD_eq_getElem?_getD]
  have l1 : v < (movL n es s).length := by rw [movL_len]; exact hv
  rw [List.getElem?_eq_getElem l1] at h ⊢
  rw [List.getElem?_eq_getElem (by omega : v < d.length)]
  simp only [Option.getD_some] at h ⊢
  rw [h]; omega
theorem appL_len {n : Nat} (es : List Tri) {d : List Int} (s : List Int) (hd : d.length = n) : (appL n es d s).length = n := by simp [appL, plusL, movL_len, hd]
end Go.Proofs.YtjfggodnfoknfaaGreatDoor

namespace Go.Proofs.YtjfggodnfoknfaaGreatDoor
open Go.RowKit Go.Shelf

theorem rightP_iff {n : Int} {es : List Tri} {L : List (List Int)} (h : rightP n es L = true) : Sm n es ∧ eGiven n es [] = 0 ∧ ∀ zs ∈ L, checkE zs n = 0 ∧ Lw n zs := by
  unfold rightP lowP at h
  simp only [Bool.and_eq_true, beq_iff_eq, Bool.not_eq_true', List.any_eq_false] at h
  obtain ⟨⟨⟨h1, h2⟩, h3⟩, h4⟩ := h
  refine ⟨fewB_sm h1, h3, fun zs hz => ⟨?_, lowB_lw ?_⟩⟩
  · have := h4 zs hz; simpa using this
  · have := h2 zs hz; simpa using this
theorem eGiven_of {n : Int} {es : List Tri} (h : eGiven n es [] = 0) {L : List (List Int)} (hL : ∀ zs ∈ L, checkE zs n = 0) : eGiven n es L = 0 := by
  obtain ⟨h1, h2, -⟩ := eGiven_ok h
  unfold eGiven
  rw [if_neg (by simpa using h1), if_neg (by simp [h2])]
  induction L with
  | nil => rfl
  | cons z r ih =>
    rw [firstE, if_neg (by simpa using hL z (by simp))]
    exact ih fun x hx => hL x (List.mem_cons_of_mem _ hx)
theorem checkE_of {zs : List Int} {m : Nat} (h1 : 1 ≤ m) (h12 : m ≤ 12) (hl : zs.length = m) (hb : ∀ z ∈ zs, InB z = true) : checkE zs m = 0 := by
  unfold checkE
  rw [if_neg (by omega), if_neg (by simp [hl]), if_pos (List.all_eq_true.2 hb)]
theorem bd_inB {B : Int} {zs : List Int} (h : Bd B zs) (hB : B ≤ 1048576) : ∀ z ∈ zs, InB z = true := by
  intro z hz
  obtain ⟨k, hk, rfl⟩ := List.mem_iff_getElem.1 hz
  have := h k
  rw [List.getD_eq_getElem?_getD, List.getElem?_eq_getElem hk] at this
  simp only [Option.getD_some] at this
  rw [inB_iff]; omega
end Go.Proofs.YtjfggodnfoknfaaGreatDoor

namespace Go.Proofs.YtjfggodnfoknfaaGreatDoor
open Go.RowKit Go.Shelf

/-- What the reference's Verify answers. -/
theorem verifyE_ref {n : Nat} {es : List Tri} {a b s : List Int} (hE : Edges n es) (hn1 : 1 ≤ n) (hn : n ≤ 12) (hgc : gcheckE n es = 0) (h1 : eGiven n es [a, b] = 0) (h2 : scrE n s = 0) : verifyE n es a b s = if appL n es a s = b then 0 else 16 := by
  obtain ⟨-, h4, h5⟩ := eGiven_ok h1
  have ca := h5 a (by simp)
  have cb := h5 b (by simp)
  have cs : checkE s n = 0 := by rw [← scrE_check hn1 hn]; exact h2
  have g3 : eGiven n es [a, b, s] = 0 := eGiven_of (by
    unfold eGiven
    rw [if_neg (by simpa using hgc), if_neg (by simp [h4])]; rfl) (fun z hz => by
      simp only [List.mem_cons, List.mem_nil_iff, or_false] at hz
      rcases hz with rfl | rfl | rfl
      · exact ca
      · exact cb
      · exact cs)
  obtain ⟨_, _, hal, hai⟩ := checkE_ok ca
  obtain ⟨_, _, hbl, hbi⟩ := checkE_ok cb
  have hal' : a.length = n := by omega
  have hbl' : b.length = n := by omega
  have hmv : moveE s es a = appL n es a s := by
    refine List.ext_getElem (by rw [moveE_len, appL_len es s hal']; exact hal') fun k hk hk' => ?_
    have hkm : k < n := by rw [moveE_len] at hk; omega
    have e := moveE_get (s := s) hal' hE.ends k
    rw [← lap_edges hE.ends] at e
    have e2 := appL_get es (d := a) s hal' hkm
    rw [List.getD_eq_getElem?_getD, List.getElem?_eq_getElem hk] at e
    rw [List.getD_eq_getElem?_getD, List.getElem?_eq_getElem hk'] at e2
    simp only [Option.getD_some] at e e2
    omega
  have f1 : fGiven n es a = 0 := by unfold fGiven; rw [if_neg (by simpa using hgc), ca]
  have f2 : fGiven n es s = 0 := by unfold fGiven; rw [if_neg (by simpa using hgc), cs]
  have hap : applyL n es a s = bndL (appL n es a s) := by
    unfold applyL
    rw [if_neg (by simpa using f1), if_neg (by simpa using f2), hmv]
  unfold verifyE
  rw [if_neg (by simpa using g3), hap]
  unfold bndL
  by_cases e : appL n es a s = b
  · rw [if_pos e, e, if_pos hbi, if_pos ⟨rfl, rfl⟩]
  · rw [if_neg e]
    by_cases hi : (appL n es a s).all InB = true
    · rw [if_pos hi, if_neg (fun h => e h.2)]
    · rw [if_neg hi, if_neg (fun h => by simp at h)]
end Go.Proofs.YtjfggodnfoknfaaGreatDoor

namespace Go.Proofs.YtjfggodnfoknfaaGreatDoor
open Go.RowKit Go.Shelf

theorem OV.blk {w : World} {B : Nat} {e : TypeId} {v : Value} {us : List Value} (h : OV w B e v us) {k : Nat} (hk : v.ownBlock = some k) : ∃ cur, w.heap[k]? = some (.cells cur e (0, 0)) := by
  rcases h.1.2 with ⟨rfl, _⟩ | ⟨g, cap, cur, rfl, _, hh, _⟩
  · cases hk
  · simp only [Value.ownBlock, Option.some.injEq] at hk; subst hk; exact ⟨cur, hh⟩
theorem OV.keptBox {w w' : World} {B k : Nat} {e e' : TypeId} {v : Value} {us : List Value} {cs : Array Value} {fr : Nat × Nat} (h : OV w B e v us) (hb : w.heap[k]? = some (.cells cs e' fr)) (hne : e ≠ e') (hg : w.grownBy w' (some k)) : OV w' B e v us := by
  refine ⟨h.1.kept hg ?_, h.2⟩
  cases hv : v.ownBlock with
  | none => exact .inl rfl
  | some j =>
    right; intro ej
    obtain ⟨cur, hc⟩ := h.blk hv
    injection ej with ej
    subst ej
    rw [hb] at hc
    injection hc with hc
    injection hc with _ hc
    exact hne hc.symm
theorem OV.keptOwn {w w' : World} {B B' : Nat} {e e' : TypeId} {v v' : Value} {us us' : List Value} (h : OV w B e v us) (h' : OV w B' e' v' us') (hne : e ≠ e') (hg : w.grownBy w' v'.ownBlock) : OV w' B e v us := by
  cases hv : v'.ownBlock with
  | none => rw [hv] at hg; exact ⟨h.1.kept hg (by cases v.ownBlock <;> simp), h.2⟩
  | some k => rw [hv] at hg; obtain ⟨cur, hc⟩ := h'.blk hv; exact h.keptBox hc hne hg
end Go.Proofs.YtjfggodnfoknfaaGreatDoor

namespace Go.Proofs.YtjfggodnfoknfaaGreatDoor
open Go.RowKit Go.Shelf
attribute [local go_sem] Oper.semAt_some
theorem ovLoop {w : World} {B : Nat} {e : TypeId} {v : Value} {us : List Value} (h : OV w B e v us) {l : Nat} {r : Loop} (hl : w.heap[l]? = some (.loop r)) (o : Obj) : OV (w.putObj l o) B e v us := by
  refine ⟨h.1.kept (grownBy_putObj' w l o) ?_, h.2⟩
  rcases h.1.2 with ⟨rfl, _⟩ | ⟨g, cap, cur, rfl, _, hh, _⟩
  · exact .inl rfl
  · right
    intro e'
    simp only [Value.ownBlock, Option.some.injEq] at e'
    subst e'
    rw [hl] at hh; cases hh
/-- A box of another type outlives an append. -/
theorem ovBox {w w' : World} {B b : Nat} {e T : TypeId} {v : Value} {us xs : List Value} (h : BL w b T xs) (h' : OV w B e v us) (hne : e ≠ T) (hg : w.grownBy w' v.ownBlock) : BL w' b T xs := by
  refine h.grown hg ?_
  intro hv
  obtain ⟨cur, hc⟩ := h'.blk hv
  unfold BL at h
  rw [h] at hc
  injection hc with hc
  injection hc with _ hc
  exact hne hc.symm
theorem NV.put {W : World} {v : Value} {a l : Nat} {o' : Obj} (h : NV W v a) (hl : W.heap[l]? = some o') (ho : o'.isCells = false) (o : Obj) : NV (W.putObj l o) v a := by
  rcases h.parts with ⟨rfl, q, d, rfl⟩ | ⟨h0, ad, d, rfl, hd, hb, hc⟩
  · exact NV.zero _ _ _
  · have hne : ad.block ≠ l := fun e => by
      unfold World.cell? at hc
      rw [e, hl] at hc
      cases o' <;> simp at hc
      cases ho
    have e3 : (W.putObj l o).cell? ad = W.cell? ad := by
      unfold World.cell?
      rw [World.putObj_heap_other hne]
    refine ⟨⟨some ad, d, by simp [trimL, h0], by simp [trimL, h0]; omega, by simp [trimL, h0], fun k hk => ?_⟩, h.2⟩
    have : k = 0 := by simp [trimL, h0] at hk; omega
    subst this
    refine ⟨ad, rfl, by simpa [World.putObj] using hb, ?_⟩
    rw [addr_add_zero, e3, hc]
    simp [trimL, h0, uV]
/-- What has been read so far. -/
def RdI (w : World) (pre : List Nat) (W : World) : Prop :=
  BL W w.heap.size 131 [.bool false, .slice none 0 0] ∧ (∃ v, BL W (w.heap.size + 1) 129 [v] ∧ OV W (w.heap.size + 2) 115 v (pre.map uV)) ∧ Below w.heap.size w W
theorem read_any (z : Int) (w : World) (hz : z.natAbs < 1000000000) :
    Calls Tryz.prog 95 #[zV z] w fun e w' => ∃ u, e = .returned u ∧ ZN w' u z ∧ Below w.heap.size w w' := by
  obtain ⟨i0, hi, hz0, hz1, hz2⟩ := word_parts
  have HC : Hid (∀ W, Calls Tryz.prog 132 #[zV z, .string ⟨#[45]⟩] W fun e w' => e = .returned (.tuple #[bV (Go.Lib.decDigits z.natAbs), .bool (decide (z < 0))]) ∧ w' = W) := fun W => cutz_any z W
  have HG : Hid (∀ W, Calls Tryz.prog 135 #[bV (Go.Lib.decDigits z.natAbs)] W fun e w' => e = .returned (.func (.func 164) #[] #[.pointer (some ⟨W.heap.size, 0, none⟩)]) ∧ W.alloc (.cells #[bV (Go.Lib.decDigits z.natAbs)] 9) = w') := fun W => groups_any _ W
  have HIt := Lib.hid (fun hx => groups1_iter hx z.natAbs hz)
  have hsg := sgN_self z
  generalize z.natAbs = u at *
  have HB : Hid (∃ S : ByteArray, bV (Go.Lib.decDigits u) = .string S) := ⟨_, rfl⟩
  generalize bV (Go.Lib.decDigits u) = bd at *
  obtain ⟨S, rfl⟩ := HB.out
  have HZ : Hid (∃ T : ByteArray, zV z = .string T) := ⟨_, rfl⟩
  generalize zV z = zv at *
  obtain ⟨T, rfl⟩ := HZ.out
  generalize decide (z < 0) = m at *
  clear HB HZ
  refine (callsIn_wide (n := 3)).1 ?_
  refine callsIn_of_wp_marks Tryz.func95 rfl trivial ?_ rfl
  simp only [Tryz.ntmps95, List.size_toArray, List.length_cons, List.length_nil, Nat.reduceAdd, Nat.reduceSub, Array.replicate_succ, Array.replicate_zero, List.push_toArray, List.append_toArray, List.nil_append, List.cons_append]
  gi_wp2_with fail
  refine ⟨trivial, (callsIn_wide.2 (HC.out _)).mono ?_⟩
  rintro e w1 ⟨rfl, rfl⟩
  gi_wp2_with fail
  refine ⟨trivial, (callsIn_wide.2 (HG.out _)).mono ?_⟩
  rintro e w1 ⟨rfl, rfl⟩
  gi_wp2
  obtain ⟨W4, hW4⟩ : ∃ W4, W4 = (((w.alloc (.cells #[.bool false, .slice none 0 0] 131)).alloc (.cells #[.slice none 0 0] 129)).alloc (.cells #[.string S] 9)) := ⟨_, rfl⟩
  have hs4 : W4.heap.size = w.heap.size + 3 := by rw [hW4]; simp
  have hb4 : Below w.heap.size w W4 := by rw [hW4]; go_grown
  have hbs : BL W4 (w.heap.size + 1 + 1) 9 [.string S] := by
    have := BL.new' ((w.alloc (.cells #[.bool false, .slice none 0 0] 131)).alloc (.cells #[.slice none 0 0] 129)) #[.string S] 9
    simp only [World.size_alloc] at this
    rw [hW4]; exact this
  have hI4 : RdI w [] W4 := by
    refine ⟨?_, ⟨.slice none 0 0, ?_, OV.nil_ _ _ _⟩, hb4⟩
    · rw [hW4]; exact ((BL.new' w _ _).alloc _).alloc _
    · have := BL.new' (w.alloc (.cells #[.bool false, .slice none 0 0] 131)) #[.slice none 0 0] 129
      simp only [World.size_alloc] at this
      rw [hW4]; exact this.alloc _
  rw [← hW4]
  have HS4 := Lib.hid hs4
  have HI4 := Lib.hid hI4
  have HBS := Lib.hid hbs
  clear hW4 hb4 hI4 hs4 hbs HC HG
  refine wpIn_rangeFunc_iter (gf := 164) (lb := #[.pointer (some ⟨w.heap.size + 1 + 1, 0, none⟩)]) rfl (enters_of Tryz.func164 (by kernel_rfl) rfl)
    (HIt.out (w.heap.size + 1 + 1)) (fun _ => rfl) ?hR (fun _ _ _ _ _ => trivial) ?hKp (fun _ _ _ _ _ h _ => h) (RdI w) (fun _ _ _ => False) ?hI (fun _ _ _ _ _ h _ => h) ?hIR (fun _ _ _ _ h _ => h) ?hpre ?h0
    (fun x => { tmps := #[.string T, undef, .pointer (some ⟨w.heap.size, 0, none⟩), .string S, .bool m, .pointer (some ⟨w.heap.size + 1, 0, none⟩), .int .u32 (x : Int), .tuple #[.string S, .bool m], .string T, .tuple #[.string S, .bool m], .string S, .bool m, .string S, .func (.func 164) #[] #[.pointer (some ⟨w.heap.size + 1 + 1, 0, none⟩)], .int .u32 (x : Int), undef, undef, undef, undef, undef, undef, undef, undef], defers := [] }) ?assign ?body ?done ?stop
  case hR => intro A B h hs; exact ⟨h.block _ (by omega), h.block _ (by omega)⟩
  case hKp => intro W r o _; trivial
  case hI =>
    rintro pre W r o ⟨h1, ⟨v, h2, h3⟩, h4⟩ hl
    exact ⟨h1.putLoop hl o, ⟨v, h2.putLoop hl o, ovLoop h3 hl o⟩, below_putLoop h4 (by have := HS4.out; omega) o⟩
  case hIR =>
    rintro pre A B ⟨h1, ⟨v, h2, h3⟩, h4⟩ hr
    exact ⟨h1.bel hr, ⟨v, h2.bel hr, h3.below hr⟩, h4.trans (hr.mono h4.size)⟩
  case hpre => intro r; exact HBS.out.bel ((below_alloc W4 _).alloc (by simp) _)
  case h0 =>
    intro r
    obtain ⟨h1, ⟨v, h2, h3⟩, h4⟩ := HI4.out
    have hb := (below_alloc W4 (.deferred (some []))).alloc (by simp) (.loop r)
    exact ⟨h1.bel hb, ⟨v, h2.bel hb, h3.below hb⟩, h4.trans (hb.mono h4.size)⟩
  case assign =>
    intro l x W K hK
    gi_wp2
    exact hK
  case body =>
    rintro l pre x W r ⟨h1, ⟨v, h2, h3⟩, h4⟩ ⟨rfl, rfl⟩ hl hd
    have c2 : W.cell? ⟨w.heap.size + 1, 0, none⟩ = some v := h2.cell 0
    have f2 := h2.frozen 0
    have hx1 := Lib.hid (RV.ones W (.int .u32 (x : Int)) 115)
    have ho := Lib.hid (h3.below (below_alloc W (.cells #[.int .u32 (x : Int)] 115)))
    have hone := Lib.hid (one_ones (u := .int .u32 (x : Int)) rfl)
    have hsW : w.heap.size + 2 ≤ W.heap.size := h2.lt
    have hb2 := h2.bel (below_alloc W (.cells #[.int .u32 (x : Int)] 115))
    have H1 := Lib.hid (h1.bel (below_alloc W (.cells #[.int .u32 (x : Int)] 115)))
    have H2 := Lib.hid hb2
    have H4 := Lib.hid h4
    have HL := Lib.hid hl
    have HD := Lib.hid hd
    have HSW := Lib.hid hsW
    clear h1 h2 h3 h4 hl hd hb2
    gi_wp2_with (gi_at_builtin; refine wpListIn_appendV _ rfl _ _ _ rfl 115 i0 _ 4 Tryz.underlying129 hi hz0 hz1 hz2 rfl (w.heap.size + 2) _ _ rfl ho.out _ _ rfl hx1.out hone.out (by simp) (by simp) (by simp; omega) ?_; intro v1 w1 hown1 hg1 hat1; obtain ⟨g1, cap1, rfl, hgB, hgl⟩ := OV.shape hown1 (by simp); have HO := Lib.hid hown1; have hg0 := Lib.hid hg1; have hbx := ovBox H2.out ho.out (by decide) hg1; have HBX := Lib.hid hbx; have hcb : w1.cell? ⟨w.heap.size + 1, 0, none⟩ = some v := hbx.cell 0; have hfb := hbx.frozen 0; have hgz := hg1.size; clear hown1 hg1 hat1 hbx)
    have hg : (W.alloc (.cells #[.int .u32 (x : Int)] 115)).grownBy w1 v.ownBlock := hg0.out
    have hset := grownBy_setCell' w1 (w.heap.size + 1) (.slice (some ⟨g1, 0, none⟩) 1 cap1)
    have hWl : W4.heap.size + 1 < W.heap.size := lt_of_block HL.out
    have hn4 := HS4.out
    have step : ∀ k o, k < W.heap.size → k ≠ w.heap.size + 1 → W.heap[k]? = some o → o.isCells = false → (w1.setCell ⟨w.heap.size + 1, 0, none⟩ (.slice (some ⟨g1, 0, none⟩) 1 cap1)).heap[k]? = W.heap[k]? := by
      intro k o hk hk1 ho1 ho2
      have hal : (W.alloc (.cells #[.int .u32 (x : Int)] 115)).heap[k]? = W.heap[k]? := Below.heap_alloc _ _ _ hk
      refine (hset.block k (by have := hg.size; simp at this; omega) (by simp; exact hk1)).trans ((hg.block k (by simp; omega) ?_).trans hal)
      intro hv
      obtain ⟨cur, hc⟩ := ho.out.blk hv.symm
      rw [hal, ho1] at hc
      injection hc with hc
      subst hc
      cases ho2
    have hbel : Below w.heap.size w w1 := below_own ((H4.out.trans ((below_alloc W _).mono H4.out.size))) (by simp; have := H4.out.size; omega) (ho.out.mono (by omega)) hg
    refine ⟨⟨step _ _ (by omega) (by omega) HD.out rfl, step _ _ hWl (by omega) HL.out rfl⟩, trivial, ?_, ⟨_, HBX.out.set 0 _, ?_⟩, ?_⟩
    · exact (ovBox H1.out ho.out (by decide) hg).set_other (by simp) _
    · exact OV.keptBox HO.out HBX.out (by decide) hset
    · exact hbel.setCell (p := ⟨w.heap.size + 1, 0, none⟩) (by simp) _
  case done =>
    rintro xs W rfl ⟨h1, ⟨v, h2, h3⟩, h4⟩ hD
    have c2 : W.cell? ⟨w.heap.size + 1, 0, none⟩ = some v := h2.cell 0
    have HTr := Lib.hid (trim_any2 v [u] W h3.rv (by simp))
    have H1 := Lib.hid h1
    have HD := Lib.hid hD
    have H4 := Lib.hid h4
    clear h1 h2 h3 h4 hD
    gi_wp2_with fail
    refine ⟨trivial, (callsIn_wide.2 HTr.out).mono ?_⟩
    rintro e w6 ⟨v6, rfl, hv6, rfl⟩
    have HSg := Lib.hid (signed_any m v6 u _ ⟨hv6, hz⟩)
    clear hv6
    gi_wp2_with fail
    refine ⟨trivial, (callsIn_wide.2 HSg.out).mono ?_⟩
    rintro e w7 ⟨p7, n7, c7, rfl, ho7, hb7⟩
    have bl := H1.out.bel hb7
    have k0 := bl.cell 0
    have k1 := bl.cell 1
    have f0 := bl.frozen 0
    have f1 := bl.frozen 1
    have hd7 := (hb7.block _ (lt_of_block HD.out)).trans HD.out
    have HBL := Lib.hid bl
    have HO7 := Lib.hid ho7
    have HD7 := Lib.hid hd7
    have HB7 := Lib.hid (H4.out.trans (hb7.mono H4.out.size))
    clear bl ho7 hb7 hd7 c2
    gi_wp2
    have hd8 : ((w7.setCell ⟨w.heap.size, 0, none⟩ (.bool (decide (sgN m u < 0)))).setCell ⟨w.heap.size, 1, none⟩ (.slice p7 n7 c7)).heap[W4.heap.size]? = some (.deferred (some [])) := by
      rw [heap_setCell_other _ _ _ _ (by simp; have := HS4.out; omega), heap_setCell_other _ _ _ _ (by simp; have := HS4.out; omega)]
      exact HD7.out
    have hbl8 := (HBL.out.set 0 (.bool (decide (sgN m u < 0)))).set 1 (.slice p7 n7 c7)
    have hn8 := (HO7.out.box HBL.out (.bool (decide (sgN m u < 0))) (.slice p7 n7 c7)).put hd8 rfl
    have hb8 := below_box HB7.out (Nat.le_refl _) (.bool (decide (sgN m u < 0))) (.slice p7 n7 c7)
    rw [hsg] at hd8 hbl8 hn8 hb8
    refine ⟨by simp, .inl ⟨_, _, rfl, run_takeDeferred hd8, ?_⟩⟩
    refine ⟨_, results_cell_row rfl _ _ w.heap.size 131 #[.bool (decide (z < 0)), .slice p7 n7 c7] (0, 0) _ rfl ((World.putObj_heap_other (by have := HS4.out; omega)).trans hbl8) Tryz.underlying131 rfl num_size, _, rfl, ZN.mk (hn8 _), below_putLoop hb8 (by have := HS4.out; omega) _⟩
  case stop => rintro c pre W _ h _; exact h.elim
end Go.Proofs.YtjfggodnfoknfaaGreatDoor

namespace Go.Proofs.YtjfggodnfoknfaaGreatDoor
open Go.RowKit
theorem both_mul (a b : Int) (w : World) (ha : a.natAbs < 1000000000) (hb : b.natAbs < 1000000000) (hab : (a * b).natAbs < 1000000000) (ht : TB w) :
    Calls Tryz.prog 194 #[zV a, zV b, .func (.func 195) #[] #[]] w fun e w' => e = .returned (.tuple #[zV (a * b), .int .i64 0]) ∧ Below w.heap.size w w' := by
  have HC : Hid (∀ W, W.cell? ⟨w.heap.size, 0, none⟩ = some (zV a) → W.cell? ⟨w.heap.size, 1, none⟩ = some (zV b) → w.heap.size < W.heap.size → Calls Tryz.prog 198 #[.slice (some ⟨w.heap.size, 0, none⟩) 2 2] W fun e w' => e = .returned (.int .i64 0) ∧ Below W.heap.size W w') := fun W h0 h1 hg => checked_any a b _ _ W ha hb h0 h1 hg
  have HA : Hid (∀ W, Calls Tryz.prog 95 #[zV a] W fun e w' => ∃ u, e = .returned u ∧ ZN w' u a ∧ Below W.heap.size W w') := fun W => read_any a W ha
  have HB : Hid (∀ W, Calls Tryz.prog 95 #[zV b] W fun e w' => ∃ u, e = .returned u ∧ ZN w' u b ∧ Below W.heap.size W w') := fun W => read_any b W hb
  have HM : Hid (∀ W vx vy, ZN W vx a → ZN W vy b → Calls Tryz.prog 195 #[vx, vy] W fun e w' => ∃ u, e = .returned u ∧ ZN w' u (a * b) ∧ Below W.heap.size W w') := fun W vx vy h1 h2 => product_any vx vy a b W h1 h2 hab
  have HR : Hid (∀ W v, Below w.heap.size w W → ZN W v (a * b) → Calls Tryz.prog 94 #[v] W fun e w' => e = .returned (.tuple #[zV (a * b), .int .i64 0]) ∧ Below W.heap.size W w') := fun W v h1 h2 => iresult_any v _ W h2 (ht.below h1)
  clear ha hb hab ht
  generalize a * b = r at *
  unfold zV at *
  generalize (⟨(Go.Lib.itoa a).toArray⟩ : ByteArray) = S at *
  generalize (⟨(Go.Lib.itoa b).toArray⟩ : ByteArray) = T at *
  generalize (⟨(Go.Lib.itoa r).toArray⟩ : ByteArray) = R at *
  go_enter Tryz.func194, Tryz.ntmps194
  go_wp2_with fail
  refine (HC.out _ (by go_cell) (by go_cell) (by simp)).mono ?_
  rintro e w1 ⟨rfl, hb1⟩
  have HB1 := Lib.hid ((below_alloc w _).trans (hb1.mono (by simp)))
  clear hb1
  go_wp2_with fail
  refine (HA.out _).mono ?_
  rintro e w2 ⟨u2, rfl, hz2, hb2⟩
  have HB2 := Lib.hid (HB1.out.trans (hb2.mono HB1.out.size))
  have HZ2 := Lib.hid hz2
  clear hz2 hb2
  go_wp2_with fail
  refine (HB.out _).mono ?_
  rintro e w3 ⟨u3, rfl, hz3, hb3⟩
  have HB3 := Lib.hid (HB2.out.trans (hb3.mono HB2.out.size))
  have HMM := Lib.hid (HM.out w3 u2 u3 (HZ2.out.below hb3) hz3)
  clear hz3 hb3
  go_wp2_with fail
  refine HMM.out.mono ?_
  rintro e w4 ⟨u4, rfl, hz4, hb4⟩
  have HB4 := Lib.hid (HB3.out.trans (hb4.mono HB3.out.size))
  have HRR := Lib.hid (HR.out w4 u4 HB4.out hz4)
  clear hz4 hb4
  go_wp2_with fail
  refine HRR.out.mono ?_
  rintro e w5 ⟨rfl, hb5⟩
  go_wp2
  go_ret2
  exact ⟨rfl, HB4.out.trans (hb5.mono HB4.out.size)⟩
theorem imul_any (a b : Int) (w : World) (ha : a.natAbs < 1000000000) (hb : b.natAbs < 1000000000) (hab : (a * b).natAbs < 1000000000) (ht : TB w) :
    Calls Tryz.prog 177 #[zV a, zV b] w fun e w' => e = .returned (.tuple #[zV (a * b), .int .i64 0]) ∧ Below w.heap.size w w' := by
  have HB := Lib.hid (both_mul a b w ha hb hab ht)
  clear ha hb hab ht
  generalize a * b = r at *
  unfold zV at *
  generalize (⟨(Go.Lib.itoa a).toArray⟩ : ByteArray) = S at *
  generalize (⟨(Go.Lib.itoa b).toArray⟩ : ByteArray) = T at *
  generalize (⟨(Go.Lib.itoa r).toArray⟩ : ByteArray) = R at *
  go_enter Tryz.func177, Tryz.ntmps177
  go_wp2_with fail
  refine HB.out.mono ?_
  rintro e w2 ⟨rfl, hb2⟩
  go_wp2
  go_ret2
  exact ⟨rfl, hb2⟩
theorem both_sub (a b : Int) (w : World) (ha : a.natAbs < 1000000000) (hb : b.natAbs < 1000000000) (hab : a.natAbs + b.natAbs < 1000000000) (ht : TB w) :
    Calls Tryz.prog 194 #[zV a, zV b, .func (.func 196) #[] #[]] w fun e w' => e = .returned (.tuple #[zV (a - b), .int .i64 0]) ∧ Below w.heap.size w w' := by
  have HC : Hid (∀ W, W.cell? ⟨w.heap.size, 0, none⟩ = some (zV a) → W.cell? ⟨w.heap.size, 1, none⟩ = some (zV b) → w.heap.size < W.heap.size → Calls Tryz.prog 198 #[.slice (some ⟨w.heap.size, 0, none⟩) 2 2] W fun e w' => e = .returned (.int .i64 0) ∧ Below W.heap.size W w') := fun W h0 h1 hg => checked_any a b _ _ W ha hb h0 h1 hg
  have HA : Hid (∀ W, Calls Tryz.prog 95 #[zV a] W fun e w' => ∃ u, e = .returned u ∧ ZN w' u a ∧ Below W.heap.size W w') := fun W => read_any a W ha
  have HB : Hid (∀ W, Calls Tryz.prog 95 #[zV b] W fun e w' => ∃ u, e = .returned u ∧ ZN w' u b ∧ Below W.heap.size W w') := fun W => read_any b W hb
  have HM : Hid (∀ W vx vy, ZN W vx a → ZN W vy b → Calls Tryz.prog 196 #[vx, vy] W fun e w' => ∃ u, e = .returned u ∧ ZN w' u (a - b) ∧ Below W.heap.size W w') := fun W vx vy h1 h2 => subClo_any vx vy a b W h1 h2 hab
  have HR : Hid (∀ W v, Below w.heap.size w W → ZN W v (a - b) → Calls Tryz.prog 94 #[v] W fun e w' => e = .returned (.tuple #[zV (a - b), .int .i64 0]) ∧ Below W.heap.size W w') := fun W v h1 h2 => iresult_any v _ W h2 (ht.below h1)
  clear ha hb hab ht
  generalize a - b = r at *
  unfold zV at *
  generalize (⟨(Go.Lib.itoa a).toArray⟩ : ByteArray) = S at *
  generalize (⟨(Go.Lib.itoa b).toArray⟩ : ByteArray) = T at *
  generalize (⟨(Go.Lib.itoa r).toArray⟩ : ByteArray) = R at *
  go_enter Tryz.func194, Tryz.ntmps194
  go_wp2_with fail
  refine (HC.out _ (by go_cell) (by go_cell) (by simp)).mono ?_
  rintro e w1 ⟨rfl, hb1⟩
  have HB1 := Lib.hid ((below_alloc w _).trans (hb1.mono (by simp)))
  clear hb1
  go_wp2_with fail
  refine (HA.out _).mono ?_
  rintro e w2 ⟨u2, rfl, hz2, hb2⟩
  have HB2 := Lib.hid (HB1.out.trans (hb2.mono HB1.out.size))
  have HZ2 := Lib.hid hz2
  clear hz2 hb2
  go_wp2_with fail
  refine (HB.out _).mono ?_
  rintro e w3 ⟨u3, rfl, hz3, hb3⟩
  have HB3 := Lib.hid (HB2.out.trans (hb3.mono HB2.out.size))
  have HMM := Lib.hid (HM.out w3 u2 u3 (HZ2.out.below hb3) hz3)
  clear hz3 hb3
  go_wp2_with fail
  refine HMM.out.mono ?_
  rintro e w4 ⟨u4, rfl, hz4, hb4⟩
  have HB4 := Lib.hid (HB3.out.trans (hb4.mono HB3.out.size))
  have HRR := Lib.hid (HR.out w4 u4 HB4.out hz4)
  clear hz4 hb4
  go_wp2_with fail
  refine HRR.out.mono ?_
  rintro e w5 ⟨rfl, hb5⟩
  go_wp2
  go_ret2
  exact ⟨rfl, HB4.out.trans (hb5.mono HB4.out.size)⟩
theorem isub_any (a b : Int) (w : World) (ha : a.natAbs < 1000000000) (hb : b.natAbs < 1000000000) (hab : a.natAbs + b.natAbs < 1000000000) (ht : TB w) :
    Calls Tryz.prog 178 #[zV a, zV b] w fun e w' => e = .returned (.tuple #[zV (a - b), .int .i64 0]) ∧ Below w.heap.size w w' := by
  have HB := Lib.hid (both_sub a b w ha hb hab ht)
  clear ha hb hab ht
  generalize a - b = r at *
  unfold zV at *
  generalize (⟨(Go.Lib.itoa a).toArray⟩ : ByteArray) = S at *
  generalize (⟨(Go.Lib.itoa b).toArray⟩ : ByteArray) = T at *
  generalize (⟨(Go.Lib.itoa r).toArray⟩ : ByteArray) = R at *
  go_enter Tryz.func178, Tryz.ntmps178
  go_wp2_with fail
  refine HB.out.mono ?_
  rintro e w2 ⟨rfl, hb2⟩
  go_wp2
  go_ret2
  exact ⟨rfl, hb2⟩
end Go.Proofs.YtjfggodnfoknfaaGreatDoor

namespace Go.Proofs.YtjfggodnfoknfaaGreatDoor
open Go.RowKit
theorem iquo_any (a b z : Int) (w : World) (ha : a.natAbs < 1000000000) (hb : b.natAbs < 1000000000) (hb0 : b ≠ 0) (hz : a = b * z) (ht : TB w) :
    Calls Tryz.prog 179 #[zV a, zV b] w fun e w' => e = .returned (.tuple #[zV z, .int .i64 0]) ∧ Below w.heap.size w w' := by
  have HC : Hid (∀ W, W.cell? ⟨w.heap.size, 0, none⟩ = some (zV a) → W.cell? ⟨w.heap.size, 1, none⟩ = some (zV b) → w.heap.size < W.heap.size → Calls Tryz.prog 198 #[.slice (some ⟨w.heap.size, 0, none⟩) 2 2] W fun e w' => e = .returned (.int .i64 0) ∧ Below W.heap.size W w') := fun W h0 h1 hg => checked_any a b _ _ W ha hb h0 h1 hg
  have HA : Hid (∀ W, Calls Tryz.prog 95 #[zV a] W fun e w' => ∃ u, e = .returned u ∧ ZN w' u a ∧ Below W.heap.size W w') := fun W => read_any a W ha
  have HB : Hid (∀ W, Calls Tryz.prog 95 #[zV b] W fun e w' => ∃ u, e = .returned u ∧ ZN w' u b ∧ Below W.heap.size W w') := fun W => read_any b W hb
  have HM : Hid (∀ W vx vy, ZN W vx a → ZN W vy b → Calls Tryz.prog 199 #[vx, vy] W fun e w' => ∃ u r, e = .returned (.tuple #[u, r]) ∧ (∃ b p n c, r = .agg #[.bool b, .slice p n c]) ∧ ZN w' u z ∧ Below W.heap.size W w') := fun W vx vy h1 h2 => down_any vx vy a b z W h1 h2 hb0 hz
  have HR : Hid (∀ W v, Below w.heap.size w W → ZN W v z → Calls Tryz.prog 94 #[v] W fun e w' => e = .returned (.tuple #[zV z, .int .i64 0]) ∧ Below W.heap.size W w') := fun W v h1 h2 => iresult_any v _ W h2 (ht.below h1)
  have h48 : (⟨#[48]⟩ : ByteArray).toList = [48] := ByteArray.toList_mk [48]
  have hne : ((⟨(Go.Lib.itoa b).toArray⟩ : ByteArray).toList == [48]) = false := by
    rw [ByteArray.toList_mk, beq_eq_false_iff_ne]
    intro h
    refine hb0 (itoa_inj hb (by decide) (h.trans ?_))
    rw [show (0 : Int) = ((0 : Nat) : Int) from rfl, itoa_nat, dec_zero]
  clear ha hb hb0 ht hz
  unfold zV at *
  generalize (⟨(Go.Lib.itoa a).toArray⟩ : ByteArray) = S at *
  generalize (⟨(Go.Lib.itoa b).toArray⟩ : ByteArray) = T at *
  generalize (⟨(Go.Lib.itoa z).toArray⟩ : ByteArray) = R at *
  go_enter Tryz.func179, Tryz.ntmps179
  go_wp2_with fail
  refine (HC.out _ (by go_cell) (by go_cell) (by simp)).mono ?_
  rintro e w1 ⟨rfl, hb1⟩
  have HB1 := Lib.hid ((below_alloc w _).trans (hb1.mono (by simp)))
  clear hb1
  go_wp2_with fail
  refine (HA.out _).mono ?_
  rintro e w2 ⟨u2, rfl, hz2, hb2⟩
  have HB2 := Lib.hid (HB1.out.trans (hb2.mono HB1.out.size))
  have HZ2 := Lib.hid hz2
  clear hz2 hb2
  go_wp2_with fail
  refine (HB.out _).mono ?_
  rintro e w3 ⟨u3, rfl, hz3, hb3⟩
  have HB3 := Lib.hid (HB2.out.trans (hb3.mono HB2.out.size))
  have HMM := Lib.hid (HM.out w3 u2 u3 (HZ2.out.below hb3) hz3)
  clear hz3 hb3
  go_wp2_with fail
  refine HMM.out.mono ?_
  rintro e w4 ⟨u4, r4, rfl, ⟨rb, rp, rn, rc, rfl⟩, hz4, hb4⟩
  obtain ⟨p4, n4, c4, rfl, hn4⟩ := hz4.parts
  have HB4 := Lib.hid (HB3.out.trans (hb4.mono HB3.out.size))
  have HRR : Hid (∀ W, Below w4.heap.size w4 W → Calls Tryz.prog 94 #[.agg #[.bool (decide (z < 0)), .slice p4 n4 c4]] W fun e w' => e = .returned (.tuple #[.string R, .int .i64 0]) ∧ Below W.heap.size W w') := fun W h => HR.out W _ (HB4.out.trans (h.mono HB4.out.size)) (hz4.below h)
  clear hz4 hb4 hn4
  go_wp2_with fail
  refine (HRR.out _ (by go_grown)).mono ?_
  rintro e w5 ⟨rfl, hb5⟩
  go_wp2
  go_ret2
  exact ⟨rfl, HB4.out.trans (Below.trans (by have := HB4.out.size; go_grown) (hb5.mono (by have := HB4.out.size; simp; omega)))⟩
end Go.Proofs.YtjfggodnfoknfaaGreatDoor

