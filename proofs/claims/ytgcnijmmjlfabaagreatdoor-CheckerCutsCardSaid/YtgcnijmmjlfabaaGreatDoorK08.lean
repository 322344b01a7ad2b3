/- Contract of the checker's settles.
   Contract of the checker's product of square matrices: what it computes. -/
import Derived.Test.YtgcnijmmjlfabaaGreatDoorK07
set_option maxRecDepth 100000
set_option maxHeartbeats 16000000
namespace Go.Proofs.YtgcnijmmjlfabaaGreatDoor
open Go.RowKit Go.Shelf

/-- Which vertices an odometer fires. -/
def posB (s : List Int) : List Bool := s.map fun z => decide (0 < z)
/-- How many vertices an odometer fires. -/
def firedN (s : List Int) : Nat := (s.filter fun z => decide (0 < z)).length
/-- Whether a vertex other than q has as many chips as its valence. -/
def topB (n : Nat) (es : List Tri) (q : Nat) (b : List Int) : Bool := (List.range n).any fun v => decide ((v : Int) ≠ q) && decide (b.getD v 0 ≥ valK es v n)
/-- Whether what is left can be taken away in an order. -/
def ordB (n : Nat) (es : List Tri) (b : List Int) : List Bool → List Int → Bool
  | _, [] => true
  | ls, v :: r => if decide (0 ≤ v) && decide (v < n) && ls.getD v.toNat false then (if b.getD v.toNat 0 < mrkN es (ls.set v.toNat false) v.toNat n then false else ordB n es b (ls.set v.toNat false) r) else false
/-- What the checker answers to an odometer and an order. -/
def settlesE (n : Nat) (es : List Tri) (q : Nat) (a b pf : List Int) : Int :=
  if pf.length < n then 8 else if (pf.drop n).length ≠ firedN (pf.take n) then 8
  else if (pf.take n).getD q 0 ≠ 0 then 16 else if effB (pf.take n) = false then 16 else if debtB a q = true then 16 else if debtB b q = true then 16
  else if eqL (appLk n es a (pf.take n)) b = false then 16
  else if topB n es q b = true then 16 else if ordB n es b (posB (pf.take n)) (pf.drop n) = true then 0 else 16
theorem fired_succ {s : List Int} {k : Nat} {z : Int} (h : s[k]? = some z) : firedN (s.take (k + 1)) = firedN (s.take k) + if 0 < z then 1 else 0 := by
  unfold firedN
  rw [List.take_add_one, h, Option.toList_some, List.filter_append, List.length_append]
  by_cases c : 0 < z
  · rw [if_pos c]; simp [c]
  · rw [if_neg c]; simp [c]
theorem fired_le (s : List Int) (k : Nat) : firedN (s.take k) ≤ k := by
  unfold firedN
  have h1 := List.length_filter_le (fun z : Int => decide (0 < z)) (s.take k)
  have h2 := List.length_take_le k s
  omega
theorem posB_len (s : List Int) : (posB s).length = s.length := by simp [posB]
theorem posB_at {s : List Int} {k : Nat} {z : Int} (h : s[k]? = some z) : (posB s).getD k false = decide (0 < z) := by simp [posB, List.getD_eq_getElem?_getD, h]
theorem pos_end {s : List Int} {ls : List Bool} (hl : ls.length = s.length) (h : ∀ j, j < s.length → ls.getD j false = (posB s).getD j false) : ls = posB s := by
  apply List.ext_getElem?
  intro j
  by_cases hj : j < s.length
  · have := h j hj
    rw [List.getD_eq_getElem?_getD, List.getD_eq_getElem?_getD, List.getElem?_eq_getElem (by omega), List.getElem?_eq_getElem (by rw [posB_len]; exact hj)] at this
    rw [List.getElem?_eq_getElem (by omega), List.getElem?_eq_getElem (by rw [posB_len]; exact hj)]
    simpa using this
  · rw [List.getElem?_eq_none (by omega), List.getElem?_eq_none (by rw [posB_len]; omega)]
theorem getDB_set {ls : List Bool} {k j : Nat} {x : Bool} (hk : k < ls.length) : (ls.set k x).getD j false = if j = k then x else ls.getD j false := by
  rw [List.getD_eq_getElem?_getD, List.getElem?_set, List.getD_eq_getElem?_getD]
  by_cases e : j = k
  · rw [if_pos e.symm, if_pos e, if_pos (by omega)]; rfl
  · rw [if_neg (fun h => e h.symm), if_neg e]
theorem kSettles_any (gv va vb vf vp : Value) (n q : Nat) (nn : Int) (es : List Tri) (a b pf : List Int) (w : World) (hg : GX w gv n es) (ha : RI w va a) (hbv : RI w vb b) (hp : RI w vp pf) (hE : Edges n es) (hn : n ≤ 12) (hq : q < n) (hal : a.length = n) (hbl : b.length = n) (hab : Bd 2000000 a) (hpb : Bd 2000000 pf) (hpl : pf.length ≤ 100000) :
    Calls Tryz.prog 77 #[gv, .agg #[.int .i64 (q : Int), .int .i64 nn, va, vb, vf, vp]] w fun e w' => e = .returned (.int .i64 (settlesE n es q a b pf)) ∧ Below w.heap.size w w' := by
  obtain ⟨Aa, ca, rfl, -⟩ := ha.open_
  obtain ⟨Ab, cb, rfl, -⟩ := hbv.open_
  obtain ⟨Ap, cp, rfl, hlc, -, hcp⟩ := hp.open_
  rw [hal] at ha ⊢
  rw [hbl] at hbv ⊢
  obtain ⟨W0, hW0⟩ : ∃ W0, W0 = w.alloc (.cells #[.int .i64 (q : Int), .int .i64 nn, .slice Aa n ca, .slice Ab n cb, vf, .slice Ap pf.length cp] 87) := ⟨_, rfl⟩
  have hb0 : Below w.heap.size w W0 := by rw [hW0]; exact below_alloc w _
  have hbx : BL W0 w.heap.size 87 [.int .i64 (q : Int), .int .i64 nn, .slice Aa n ca, .slice Ab n cb, vf, .slice Ap pf.length cp] := by rw [hW0]; exact BL.new' w _ _
  have HG := Lib.hid (hg.below hb0)
  have hgw := hg.below hb0
  obtain ⟨bg, vj, vv, rfl, hb, -, hvv⟩ := hgw
  obtain ⟨Av, cv, rfl, -⟩ := hvv.open_
  rw [valsL_len] at hb hvv
  have g0 := hb.cell 0
  have x5 := hbx.cell 5
  have HX := Lib.hid hbx
  have HBg := Lib.hid hb
  have HVv := Lib.hid hvv
  have HA := Lib.hid (RI.below ha hb0)
  have HBv := Lib.hid (RI.below hbv hb0)
  have HP := Lib.hid (RI.below hp hb0)
  have HB0 := Lib.hid hb0
  have HW0 := Lib.hid hW0
  by_cases hpn : pf.length < n
  · have HR : Hid (settlesE n es q a b pf = 8) := by show _ = _; unfold settlesE; rw [if_pos hpn]
    clear ha hbv hp hE hal hbl hb hbx hb0 hW0 hg hab hpb hcp hvv
    go_enter Tryz.func77, Tryz.ntmps77
    go_wp2_with fail
    rw [← HW0.out]
    go_quiet (fail)
    go_wp2
    go_ret
    exact ⟨ret_i HR.out.symm, below_drewN HB0.out _⟩
  · have hCs : Hid (∀ k, k < n → ∃ ad z, Ap = some ad ∧ ad.block < W0.heap.size ∧ pf[k]? = some z ∧ W0.cell? (ad.add k) = some (.int .i64 z)) := fun k hk => by
      obtain ⟨ad, z, he, h1, h2, h3⟩ := hcp k (by omega)
      exact ⟨ad, z, he, by have := hb0.size; omega, h2.out, (hb0.cell (p := ad.add k) (by rw [block_of_add]; exact h1)).trans h3⟩
    obtain ⟨ad, -, rfl, -⟩ := hCs.out q hq
    have hpre := RI.pre HP.out (j := n) (by omega)
    have hsuf := RI.suf HP.out (i := n) (by omega)
    have HS := Lib.hid hpre
    have HO := Lib.hid hsuf
    have hmk := run_make_row' (P := Tryz.prog) 139 4 (.bool false) 1 Tryz.underlying139 bool_info rfl .i64 .i64 n (by omega) (by omega)
    have hsl : (pf.take n).length = n := by simp; omega
    have HSl := Lib.hid hsl
    have HOl : Hid ((pf.drop n).length = pf.length - n) := by simp [Hid]
    have HSat : Hid (∀ k z, k < n → pf[k]? = some z → (pf.take n)[k]? = some z) := fun k z hk h => by rw [List.getElem?_take_of_lt hk, h]
    have HSpec : Hid (settlesE n es q a b pf = if (pf.drop n).length ≠ firedN (pf.take n) then 8
      else if (pf.take n).getD q 0 ≠ 0 then 16 else if effB (pf.take n) = false then 16 else if debtB a q = true then 16 else if debtB b q = true then 16
      else if eqL (appLk n es a (pf.take n)) b = false then 16
      else if topB n es q b = true then 16 else if ordB n es b (posB (pf.take n)) (pf.drop n) = true then 0 else 16) := by show _ = _; unfold settlesE; rw [if_neg hpn]
    have hsb : Bd 2000000 (pf.take n) := by have := hpb.sub (by decide) 0 n; rwa [List.drop_zero] at this
    clear ha hbv hp hb hbx hb0 hW0 hg hcp hvv hpre hsuf
    have hcn : n ≤ cp := by omega
    generalize pf.take n = s at *
    generalize pf.drop n = od at *
    have HO' : Hid (RI W0 (.slice (if cp = n then some ad else some (ad.add n)) (pf.length - n) (cp - n)) od) := by
      show RI _ _ _
      split
      · exact RI.emp HOl.out (by omega) (by omega)
      · exact HO.out
    clear HO
    go_enter Tryz.func77, Tryz.ntmps77
    go_wp2_with fail
    rw [← HW0.out]
    go_quiet (fail)
    have HBy := Lib.hid (below_drewN (Below.refl W0.heap.size W0) nq)
    obtain ⟨n1, rfl⟩ : ∃ n1, n1 = nq := ⟨_, rfl⟩
    go_wp2_with fail
    go_quiet (fail)
    generalize (if cp = n then some ad else some (ad.add n)) = A6 at *
    have hm6 : pf.length - n ≤ 100000 := by omega
    generalize pf.length - n = m6 at *
    generalize cp - n = c6 at *
    have HBz := Lib.hid (below_drewN HBy.out nq)
    obtain ⟨W2, HW2⟩ : ∃ W2, Hid (W2 = (W0.drewN n1).drewN nq) := ⟨_, rfl⟩
    rw [← HW2.out] at HBz ⊢
    obtain ⟨HG2, HX2, HA2, HBv2, HS2, HO2⟩ : Hid (GX W2 (.pointer (some ⟨bg, 0, none⟩)) n es) ∧ Hid (BL W2 w.heap.size 87 [.int .i64 (q : Int), .int .i64 nn, .slice Aa n ca, .slice Ab n cb, vf, .slice (some ad) pf.length cp]) ∧ Hid (RI W2 (.slice Aa n ca) a) ∧ Hid (RI W2 (.slice Ab n cb) b) ∧ Hid (RI W2 (.slice (some ad) n cp) s) ∧ Hid (RI W2 (.slice A6 m6 c6) od) :=
      ⟨HG.out.below HBz.out, HX.out.bel HBz.out, RI.below HA.out HBz.out, RI.below HBv.out HBz.out, RI.below HS.out HBz.out, RI.below HO'.out HBz.out⟩
    have HBg2 := Lib.hid (HBg.out.bel HBz.out)
    have HVv2 := Lib.hid (RI.below HVv.out HBz.out)
    have HB2 := Lib.hid (HB0.out.trans (HBz.out.mono HB0.out.size))
    have HCs2 : Hid (∀ k, k < n → ∃ z, s[k]? = some z ∧ ad.block < W2.heap.size ∧ W2.cell? (ad.add k) = some (.int .i64 z)) := fun k hk => by
      obtain ⟨ad', z, he, h1, h2, h3⟩ := hCs.out k hk
      cases he
      exact ⟨z, HSat.out k z hk h2, by have := HBz.out.size; omega, (HBz.out.cell (p := ad.add k) (by rw [block_of_add]; exact h1)).trans h3⟩
    clear HBy HW2 HG HX HA HBv HS HO' HBz hCs HSat g0 x5 HB0 HW0 HP HBg HVv
    obtain ⟨Ab', cb', heb, -, -, hcb⟩ := HBv2.out.open_
    simp only [Value.slice.injEq] at heb
    obtain ⟨rfl, -, rfl⟩ := heb
    obtain ⟨adb, -, rfl, -⟩ := hcb q (by omega)
    have HCb : Hid (∀ k, k < n → ∃ z, b.getD k 0 = z ∧ adb.block < W2.heap.size ∧ W2.cell? (adb.add k) = some (.int .i64 z)) := fun k hk => by
      obtain ⟨ad', z, he, h1, h2, h3⟩ := hcb k (by omega)
      cases he
      exact ⟨z, getD_of' h2.out, h1, h3⟩
    have HEf : Hid (∀ W : World, Below W2.heap.size W2 W → Calls Tryz.prog 68 #[.slice (some ad) n cp] W fun e w' => e = .returned (.bool (effB s)) ∧ w' = W) := fun W h => (kEff_any _ _ W (RI.below HS2.out h)).mono fun _ _ h => ⟨h.1, h.2.symm⟩
    have HDa : Hid (∀ W : World, Below W2.heap.size W2 W → Calls Tryz.prog 110 #[.slice Aa n ca, .int .i64 (q : Int)] W fun e w' => e = .returned (.bool (debtB a q)) ∧ w' = W) := fun W h => (kDebt_any _ a q W (RI.below HA2.out h) (by omega)).mono fun _ _ h => ⟨h.1, h.2.symm⟩
    have HDb : Hid (∀ W : World, Below W2.heap.size W2 W → Calls Tryz.prog 110 #[.slice (some adb) n cb, .int .i64 (q : Int)] W fun e w' => e = .returned (.bool (debtB b q)) ∧ w' = W) := fun W h => (kDebt_any _ b q W (RI.below HBv2.out h) (by omega)).mono fun _ _ h => ⟨h.1, h.2.symm⟩
    have HAp : Hid (∀ W : World, Below W2.heap.size W2 W → Calls Tryz.prog 108 #[.pointer (some ⟨bg, 0, none⟩), .slice Aa n ca, .slice (some ad) n cp] W fun e w' => ∃ v, e = .returned v ∧ OI w' W.heap.size v (appLk n es a s) ∧ Below W.heap.size W w') := fun W h =>
      kApp_any _ _ _ n es a s W (HG2.out.below h) (RI.below HA2.out h) (RI.below HS2.out h) hE hn hal hsl (hab.mono (by decide)) hsb
    have HEq : Hid (∀ (x : List Int) (v : Value) (W : World), Below W2.heap.size W2 W → RI W v x → Calls Tryz.prog 66 #[v, .slice (some adb) n cb] W fun e w' => e = .returned (.bool (eqL x b)) ∧ ∃ m, w' = W.drewN m) := fun x v W h hx => EqualI_any v _ x b W hx (RI.below HBv2.out h)
    have HV : Hid (∀ (v : Int) (W : World), Below W2.heap.size W2 W → Calls Tryz.prog 40 #[.pointer (some ⟨bg, 0, none⟩), .int .i64 v] W fun e w' => e = .returned (.bool (decide (0 ≤ v) && decide (v < n))) ∧ w' = W) := fun v W h => (kVertex_any _ n es v W (HG2.out.below h)).mono fun _ _ h => ⟨h.1, h.2.symm⟩
    have HJ : Hid (∀ (v : Nat) (vm : Value) (bs : List Bool) (W : World), Below W2.heap.size W2 W → v < n → RB W vm bs → bs.length = n → Calls Tryz.prog 114 #[.pointer (some ⟨bg, 0, none⟩), .int .i64 (v : Int), vm] W fun e w' => e = .returned (.int .i64 (mrkN es bs v n)) ∧ w' = W) := fun v vm bs W h h1 h2 h3 => (kJoined_any _ vm n v es bs W (HG2.out.below h) h2 hE hn h1 h3).mono fun _ _ h => ⟨h.1, h.2.symm⟩
    obtain ⟨Av', cv', hev, -, -, hcv⟩ := HVv2.out.open_
    simp only [Value.slice.injEq] at hev
    obtain ⟨rfl, -, rfl⟩ := hev
    obtain ⟨adv, -, rfl, -⟩ := hcv q (by rw [valsL_len]; exact hq)
    have HCv : Hid (∀ k, k < n → adv.block < W2.heap.size ∧ W2.cell? (adv.add k) = some (.int .i64 (valK es k n))) := fun k hk => by
      obtain ⟨ad', z, he, h1, h2, h3⟩ := hcv k (by rw [valsL_len]; exact hk)
      cases he
      have := getD_of' h2.out
      rw [valsL_at hk] at this
      rw [this]
      exact ⟨h1, h3⟩
    clear hcb hcv hE hal hbl hab hpb hsl hsb HA2 HBv2 HVv2 HG2
    have g0 := HBg2.out.cell 0
    have ho0 : OB (W2.alloc (.cells (madeCells #[Value.bool false] n) 4)) W2.heap.size (.slice (some ⟨W2.heap.size, 0, none⟩) n n) (List.replicate n false) := own_falses W2 n (by omega)
    have hb3 := below_alloc W2 (.cells (madeCells #[Value.bool false] n) 4)
    obtain ⟨W3, hW3⟩ : ∃ W3, W3 = W2.alloc (.cells (madeCells #[Value.bool false] n) 4) := ⟨_, rfl⟩
    rw [← hW3] at ho0 hb3
    have HO3 := Lib.hid ho0
    have HB3 := Lib.hid hb3
    have HW3 := Lib.hid hW3
    clear hW3 ho0 hb3
    go_wp2_with fail
    rw [← HW3.out]
    clear hmk
    obtain ⟨A', c', he6, -, -, hco⟩ := HO2.out.open_
    simp only [Value.slice.injEq] at he6
    obtain ⟨rfl, -, rfl⟩ := he6
    have HCo := Lib.hid hco
    clear hco
    go_loopw [8, 44] (fun c i wr => ∃ (k : Nat) (ls : List Bool), k ≤ n ∧ c = .int .i64 (firedN (s.take k) : Int) ∧ i = .int .i64 (k : Int) ∧ Hid (ls.length = n) ∧ Hid (∀ j, j < n → ls.getD j false = if j < k then (posB s).getD j false else false) ∧ Hid (OB wr W2.heap.size (.slice (some ⟨W2.heap.size, 0, none⟩) n n) ls) ∧ Hid (Below W2.heap.size W2 wr)) (fun _ i _ => n - (intOf i).toNat)
    case atStart => exact ⟨0, _, Nat.zero_le _, rfl, rfl, by simp [Hid], fun j hj => by simp [List.getD_eq_getElem?_getD, hj], HO3.out, HB3.out⟩
    case round =>
      obtain ⟨k, ls, hk, rfl, rfl, hl, hg, ho, hb⟩ := hrel
      by_cases hlt : k < n
      · obtain ⟨z, hz, hzb, hcz⟩ := HCs2.out k hlt
        have r1 := (hb.out.cell (p := ad.add k) (by rw [block_of_add]; exact hzb)).trans hcz
        obtain ⟨-, q1, q2, q3⟩ := ho.out.at_ (k := k) (by rw [hl.out]; exact hlt)
        have hfs := fired_succ hz
        have hfl := fired_le s k
        have HP := Lib.hid (posB_at hz)
        have HS3 := Lib.hid (q3 (decide (0 < z)))
        have HB4 := Lib.hid (hb.out.setCell (p := ⟨W2.heap.size, k, none⟩) (Nat.le_refl _) (.bool (decide (0 < z))))
        have HL2 : Hid ((ls.set k (decide (0 < z))).length = n) := by show _ = _; rw [List.length_set]; exact hl.out
        have HG3 : Hid (∀ j, j < n → (ls.set k (decide (0 < z))).getD j false = if j < k + 1 then (posB s).getD j false else false) := fun j hj => by
          rw [getDB_set (by rw [hl.out]; exact hlt)]
          by_cases e : j = k
          · rw [if_pos e, e, if_pos (by omega), HP.out]
          · rw [if_neg e, hg.out j hj]
            by_cases e2 : j < k
            · rw [if_pos e2, if_pos (by omega)]
            · rw [if_neg e2, if_neg (by omega)]
        clear q3 hz hzb hcz HCs2 HCo
        generalize ls.getD k false = lk at *
        by_cases hzp : 0 < z
        · rw [if_pos hzp] at hfs
          rw [decide_eq_true hzp] at HS3 HB4 HL2 HG3
          have HF := Lib.hid hfs
          clear hfs
          generalize firedN (s.take k) = f at *
          go_wp2
          go_roundw
          case rel => exact ⟨k + 1, _, by omega, by rw [HF.out]; push_cast; rfl, by go_num, HL2.out, HG3.out, HS3.out, HB4.out⟩
          case measure => simp [intOf]; omega
        · rw [if_neg hzp] at hfs
          rw [decide_eq_false hzp] at HS3 HB4 HL2 HG3
          have HF := Lib.hid hfs
          clear hfs
          generalize firedN (s.take k) = f at *
          go_wp2
          go_roundw
          case rel => exact ⟨k + 1, _, by omega, by rw [HF.out]; rfl, by go_num, HL2.out, HG3.out, HS3.out, HB4.out⟩
          case measure => simp [intOf]; omega
      · obtain ⟨rfl⟩ : ls = posB s := by
          have hkn : k = n := by omega
          exact pos_end (by rw [hl.out, HSl.out]) fun j hj => by rw [HSl.out] at hj; rw [hg.out j hj, if_pos (by omega)]
        have hst : s.take k = s := List.take_of_length_le (by have := HSl.out; omega)
        obtain rfl : n = k := by omega
        rw [hst]
        have HOr := Lib.hid ho.out
        have HBr := Lib.hid hb.out
        clear hg hst ho hl HW3 HB3 HO3
        by_cases hlen : m6 = firedN s
        · have t : ((m6 : Int) != (firedN s : Int)) = false := by rw [bne_eq_false_iff_eq]; exact congrArg Nat.cast hlen
          rw [if_neg (by rw [HOl.out]; simpa using hlen)] at HSpec
          obtain ⟨z, hz, hzb, hcz⟩ := HCs2.out q hq
          rw [getD_of' hz] at HSpec
          have HX := Lib.hid (HX2.out.bel HBr.out)
          have x0 := HX.out.cell 0
          have x2 := HX.out.cell 2
          have x3 := HX.out.cell 3
          have s1 := (HBr.out.cell (p := ad.add q) (by rw [block_of_add]; exact hzb)).trans hcz
          have HBf := Lib.hid (HB2.out.trans (HBr.out.mono HB2.out.size))
          clear hz hlen
          by_cases hz0 : z = 0
          · subst hz0
            rw [if_neg (by simp)] at HSpec
            have HEq1 : Hid (∀ m, Calls Tryz.prog 68 #[.slice (some ad) n cp] (wr.drewN m) fun e w' => e = .returned (.bool (effB s)) ∧ w' = wr.drewN m) := fun m => HEf.out _ (below_drewN HBr.out m)
            have HDa1 : Hid (∀ m, Calls Tryz.prog 110 #[.slice Aa n ca, .int .i64 (q : Int)] (wr.drewN m) fun e w' => e = .returned (.bool (debtB a q)) ∧ w' = wr.drewN m) := fun m => HDa.out _ (below_drewN HBr.out m)
            have HDb1 : Hid (∀ m, Calls Tryz.prog 110 #[.slice (some adb) n cb, .int .i64 (q : Int)] (wr.drewN m) fun e w' => e = .returned (.bool (debtB b q)) ∧ w' = wr.drewN m) := fun m => HDb.out _ (below_drewN HBr.out m)
            generalize effB s = ef at *
            cases ef
            · rw [if_pos rfl] at HSpec
              go_wp2_with fail
              go_quiet (first | (go_at_call 68; exact Calls.quiet_of_same (HEq1.out _)))
              go_wp2
              go_ret
              exact ⟨ret_i HSpec.out.symm, below_drewN HBf.out _⟩
            · rw [if_neg (by simp)] at HSpec
              generalize debtB a q = da at *
              cases da
              · rw [if_neg (by simp)] at HSpec
                generalize debtB b q = db at *
                cases db
                · rw [if_neg (by simp)] at HSpec
                  have HS0 := Lib.hid (HEq.out (appLk n es a s))
                  clear HEq
                  generalize appLk n es a s = x at *
                  generalize eqL x b = eb at *
                  have HK : Hid (∀ W : World, Below W2.heap.size W2 W → W.cell? ⟨w.heap.size, 0, none⟩ = some (.int .i64 (q : Int)) ∧ W.cell? ⟨w.heap.size, 2, none⟩ = some (.slice Aa n ca) ∧ W.cell? ⟨w.heap.size, 3, none⟩ = some (.slice (some adb) n cb) ∧ W.cell? (ad.add q) = some (.int .i64 0)) := fun W hW =>
                    ⟨(HX2.out.bel hW).cell 0, (HX2.out.bel hW).cell 2, (HX2.out.bel hW).cell 3, (hW.cell (p := ad.add q) (by rw [block_of_add]; exact hzb)).trans hcz⟩
                  have HK0 := Lib.hid (HK.out wr.drew HBr.out.drew)
                  have HE0 := Lib.hid (HEf.out wr.drew HBr.out.drew)
                  have HA0 := Lib.hid (HDa.out wr.drew HBr.out.drew)
                  have HD0 := Lib.hid (HDb.out wr.drew HBr.out.drew)
                  have HP0 := Lib.hid (HAp.out wr.drew HBr.out.drew)
                  clear HEq1 HDa1 HDb1 HEf HDa HDb HAp hcz x0 x2 x3 s1
                  go_wp2_with fail
                  go_region_held3 (fun W' : World => W'.cell? ⟨w.heap.size, 0, none⟩ = some (.int .i64 (q : Int)) ∧ W'.cell? ⟨w.heap.size, 2, none⟩ = some (.slice Aa n ca) ∧ W'.cell? ⟨w.heap.size, 3, none⟩ = some (.slice (some adb) n cb) ∧ W'.cell? (ad.add q) = some (.int .i64 0)) (first | exact HK0.out | exact HSc.out | exact HSd.out)
                    (first
                      | (go_at_call 68; (with_reducible refine HE0.out.mono ?_); rintro e w5 ⟨rfl, rfl⟩)
                      | (go_at_call 110; (with_reducible refine HA0.out.mono ?_); rintro e w5 ⟨rfl, rfl⟩)
                      | (go_at_call 110; (with_reducible refine HD0.out.mono ?_); rintro e w5 ⟨rfl, rfl⟩)
                      | (go_at_call 108; (with_reducible refine HP0.out.mono ?_); rintro e w6 ⟨v6, rfl, ho6, hb6⟩; have HB6 := Lib.hid ((HBr.out.drew).trans (hb6.mono HBr.out.drew.size)); have HSc := Lib.hid (HK.out w6 HB6.out); have HE6 := Lib.hid (HS0.out v6 w6 HB6.out ho6.rv); have HB7 := Lib.hid hb6; clear ho6 hb6)
                      | (go_at_call 66; (with_reducible refine HE6.out.mono ?_); rintro e w7 ⟨rfl, m7, rfl⟩; have HSd := Lib.hid (HK.out _ (below_drewN HB6.out m7))))
                  have HBx := Lib.hid (below_drewN HB6.out m7)
                  have HO7 : Hid (OB (w6.drewN m7) W2.heap.size (.slice (some ⟨W2.heap.size, 0, none⟩) n n) (posB s)) := OB.below HOr.out (below_drewN ((Below.refl wr.heap.size wr).drew.trans HB7.out) m7)
                  clear HSd HSc HE6 HB7 HB6 HE0 HA0 HD0 HP0 HK0 HK HS0 HOr HBf HX hzb HCs2
                  obtain ⟨w7, hw7⟩ : ∃ w7, w7 = w6.drewN m7 := ⟨_, rfl⟩
                  rw [← hw7] at HBx HO7 ⊢
                  have HB9 := Lib.hid (HB2.out.trans (HBx.out.mono HB2.out.size))
                  clear hw7
                  cases eb
                  · rw [if_pos rfl] at HSpec
                    go_wp2
                    go_ret
                    exact ⟨ret_i HSpec.out.symm, HB9.out⟩
                  · rw [if_neg (by simp)] at HSpec
                    have x0 := (HX2.out.bel HBx.out).cell 0
                    have x3 := (HX2.out.bel HBx.out).cell 3
                    have g2 := (HBg2.out.bel HBx.out).cell 2
                    go_wp2_with fail
                    go_loop [106] (fun i => ∃ k : Nat, k ≤ n ∧ i = .int .i64 (k : Int) ∧ Hid ((List.range k).any (fun v => decide ((v : Int) ≠ q) && decide (b.getD v 0 ≥ valK es v n)) = false)) (fun i => n - (intOf i).toNat)
                    case atStart => exact ⟨0, Nat.zero_le _, rfl, rfl⟩
                    case round =>
                      obtain ⟨k, hk, rfl, hany⟩ := hrel
                      by_cases hlt : k < n
                      · obtain ⟨hvb, hcv⟩ := HCv.out k hlt
                        have r1 := (HBx.out.cell (p := adv.add k) (by rw [block_of_add]; exact hvb)).trans hcv
                        obtain ⟨zb, hzb, hbb, hcb⟩ := HCb.out k hlt
                        have r2 := (HBx.out.cell (p := adb.add k) (by rw [block_of_add]; exact hbb)).trans hcb
                        have hs := any_range_succ (p := fun v => decide ((v : Int) ≠ q) && decide (b.getD v 0 ≥ valK es v n)) (k := k)
                        rw [hany.out, Bool.false_or, hzb] at hs
                        have HT := Lib.hid (fun h => any_range_true (p := fun v => decide ((v : Int) ≠ q) && decide (b.getD v 0 ≥ valK es v n)) hlt h)
                        rw [hzb] at HT
                        have HSp := HSpec
                        clear HSpec hcv hcb hzb hvb hbb
                        generalize valK es k n = vl at *
                        by_cases hkq : k = q
                        · have t2 : ((k : Int) != (q : Int)) = false := by rw [bne_eq_false_iff_eq, hkq]
                          rw [decide_eq_false (by rw [hkq]; simp), Bool.false_and] at hs
                          have HS := Lib.hid hs
                          clear hs hkq HT
                          go_wp2
                          go_round
                          case rel => exact ⟨k + 1, by omega, by go_num, HS.out⟩
                          case measure => simp [intOf]; omega
                        · have t2 : ((k : Int) != (q : Int)) = true := by rw [bne_iff_ne]; omega
                          have hkq' : decide ((k : Int) ≠ (q : Int)) = true := decide_eq_true (by omega)
                          rw [hkq', Bool.true_and] at hs HT
                          by_cases hge : zb ≥ vl
                          · have ht := HT.out (decide_eq_true hge)
                            have HR : Hid (settlesE n es q a b pf = 16) := by show _ = _; rw [HSp.out, if_pos (show topB n es q b = true from ht)]
                            clear hs ht HT
                            go_wp2
                            go_ret
                            exact ⟨ret_i HR.out.symm, HB9.out⟩
                          · rw [decide_eq_false hge] at hs
                            have HS := Lib.hid hs
                            clear hs HT
                            go_wp2
                            go_round
                            case rel => exact ⟨k + 1, by omega, by go_num, HS.out⟩
                            case measure => simp [intOf]; omega
                      · obtain rfl : n = k := by omega
                        rw [if_neg (by unfold topB; rw [hany.out]; simp)] at HSpec
                        clear hany
                        clear x0 x3 g2 HCv HBg2
                        go_wp2_with fail
                        go_loopw [127] (fun i w9 => ∃ (k : Nat) (ls : List Bool), k ≤ m6 ∧ i = .int .i64 (k : Int) ∧ Hid (ls.length = n) ∧ Hid (OB w9 W2.heap.size (.slice (some ⟨W2.heap.size, 0, none⟩) n n) ls) ∧ Hid (Below W2.heap.size W2 w9) ∧ Hid (ordB n es b ls (od.drop k) = ordB n es b (posB s) od)) (fun i _ => m6 - (intOf i).toNat)
                        case atStart => exact ⟨0, posB s, Nat.zero_le _, rfl, by show _ = _; rw [posB_len]; exact HSl.out, HO7.out, HBx.out, rfl⟩
                        case round =>
                          obtain ⟨k, ls, hk, rfl, hbl, hob, hbw, hbr⟩ := hrel
                          have HBw := Lib.hid (HB2.out.trans (hbw.out.mono HB2.out.size))
                          clear HO7 HBx HB9
                          by_cases hlt : k < m6
                          · obtain ⟨ado, v, rfl, hvb, hv, hcv⟩ := HCo.out k (by rw [HOl.out]; exact hlt)
                            have r1 := (hbw.out.cell (p := ado.add k) (by rw [block_of_add]; exact hvb)).trans hcv
                            have hdr := drop_at hv
                            have hb2 := hbr.out
                            rw [hdr, ordB] at hb2
                            have HV1 := Lib.hid (HV.out v _ hbw.out)
                            clear hcv hvb hdr hbr HV HCo HO2
                            by_cases hvx : 0 ≤ v ∧ v < n
                            · obtain ⟨vn, rfl⟩ : ∃ vn : Nat, v = vn := ⟨v.toNat, by omega⟩
                              have hvn : vn < n := by omega
                              rw [decide_eq_true hvx.1, decide_eq_true hvx.2] at hb2 HV1
                              simp only [Int.toNat_natCast, Bool.true_and] at hb2
                              obtain ⟨-, s1, s2, s3⟩ := hob.out.at_ (k := vn) (by rw [hbl.out]; exact hvn)
                              clear hvx
                              by_cases hbt : ls.getD vn false = true
                              · rw [hbt] at s1
                                rw [if_pos hbt] at hb2
                                have HB := Lib.hid hb2
                                have HS := Lib.hid (s3 false)
                                have HB3 := Lib.hid (hbw.out.setCell (p := ⟨W2.heap.size, vn, none⟩) (Nat.le_refl _) (.bool false))
                                have HL2 : Hid ((ls.set vn false).length = n) := by show _ = _; rw [List.length_set]; exact hbl.out
                                clear s3 hb2 hbt
                                go_wp2_with fail
                                refine HV1.out.mono ?_
                                rintro e w10 ⟨rfl, rfl⟩
                                go_wp2_with fail
                                obtain ⟨w8, hw8⟩ : ∃ w8, w8 = w10.setCell ⟨W2.heap.size, vn, none⟩ (.bool false) := ⟨_, rfl⟩
                                rw [← hw8] at HS HB3 ⊢
                                clear hw8 s1 s2 r1 HV1 hob
                                have HB8 := Lib.hid (HB2.out.trans (HB3.out.mono HB2.out.size))
                                obtain ⟨zb, hzb, hbb, hcb⟩ := HCb.out vn hvn
                                have r2 := (HB3.out.cell (p := adb.add vn) (by rw [block_of_add]; exact hbb)).trans hcb
                                have x3 := (HX2.out.bel HB3.out).cell 3
                                have HJ1 : Hid (∀ m, Calls Tryz.prog 114 #[.pointer (some ⟨bg, 0, none⟩), .int .i64 (vn : Int), .slice (some ⟨W2.heap.size, 0, none⟩) n n] (w8.drewN m) fun e w' => e = .returned (.int .i64 (mrkN es (ls.set vn false) vn n)) ∧ w' = w8.drewN m) := fun m => HJ.out vn _ (ls.set vn false) _ (below_drewN HB3.out m) hvn (OB.rb (OB.below HS.out (below_drewN (Below.refl w8.heap.size w8) m))) HL2.out
                                rw [hzb] at HB
                                clear hcb hbb hzb HJ HCb
                                generalize mrkN es (ls.set vn false) vn n = mm at *
                                by_cases hlm : zb < mm
                                · have HR : Hid (settlesE n es q a b pf = 16) := by show _ = _; rw [HSpec.out, if_neg (by rw [← HB.out, if_pos hlm]; simp)]
                                  go_quiet (first | (go_at_call 114; exact Calls.quiet_of_same (HJ1.out _)))
                                  go_wp2
                                  go_ret
                                  exact ⟨ret_i HR.out.symm, below_drewN HB8.out _⟩
                                · rw [if_neg hlm] at HB
                                  go_quiet (first | (go_at_call 114; exact Calls.quiet_of_same (HJ1.out _)))
                                  have HSn := Lib.hid (OB.below HS.out (below_drewN (Below.refl w8.heap.size w8) nq))
                                  have HBn := Lib.hid (below_drewN HB3.out nq)
                                  go_wp2
                                  go_roundw
                                  case rel => exact ⟨k + 1, _, by omega, by go_num, HL2.out, HSn.out, HBn.out, HB.out⟩
                                  case measure => simp [intOf]; omega
                              · have hbt : ls.getD vn false = false := by simpa using hbt
                                rw [hbt] at s1
                                rw [if_neg (by rw [hbt]; simp)] at hb2
                                have HR : Hid (settlesE n es q a b pf = 16) := by show _ = _; rw [HSpec.out, if_neg (by rw [← hb2]; simp)]
                                clear s3 hb2 hbt
                                go_wp2_with fail
                                refine HV1.out.mono ?_
                                rintro e w10 ⟨rfl, rfl⟩
                                go_wp2
                                go_ret
                                exact ⟨ret_i HR.out.symm, HBw.out⟩
                            · have hvf : (decide (0 ≤ v) && decide (v < (n : Int))) = false := by
                                by_cases h1 : 0 ≤ v
                                · rw [decide_eq_false (show ¬ v < (n : Int) from fun h2 => hvx ⟨h1, h2⟩), Bool.and_false]
                                · rw [decide_eq_false h1, Bool.false_and]
                              rw [hvf] at HV1
                              rw [hvf, Bool.false_and, if_neg (by simp)] at hb2
                              have HR : Hid (settlesE n es q a b pf = 16) := by show _ = _; rw [HSpec.out, if_neg (by rw [← hb2]; simp)]
                              clear hb2 hvf hvx
                              go_wp2_with fail
                              refine HV1.out.mono ?_
                              rintro e w10 ⟨rfl, rfl⟩
                              go_wp2
                              go_ret
                              exact ⟨ret_i HR.out.symm, HBw.out⟩
                          · have hb2 := hbr.out
                            rw [List.drop_of_length_le (by rw [HOl.out]; omega), ordB] at hb2
                            have HR : Hid (settlesE n es q a b pf = 0) := by show _ = _; rw [HSpec.out, if_pos hb2.symm]
                            clear hb2 hbr
                            go_wp2
                            go_ret
                            exact ⟨ret_i HR.out.symm, HBw.out⟩
                · rw [if_pos rfl] at HSpec
                  go_wp2_with fail
                  go_quiet (first | (go_at_call 68; exact Calls.quiet_of_same (HEq1.out _)) | (go_at_call 110; with_reducible exact Calls.quiet_of_same (HDa1.out _)) | (go_at_call 110; exact Calls.quiet_of_same (HDb1.out _)))
                  go_wp2
                  go_ret
                  exact ⟨ret_i HSpec.out.symm, below_drewN HBf.out _⟩
              · rw [if_pos rfl] at HSpec
                go_wp2_with fail
                go_quiet (first | (go_at_call 68; exact Calls.quiet_of_same (HEq1.out _)) | (go_at_call 110; with_reducible exact Calls.quiet_of_same (HDa1.out _)))
                go_wp2
                go_ret
                exact ⟨ret_i HSpec.out.symm, below_drewN HBf.out _⟩
          · rw [if_pos hz0] at HSpec
            have t2 : (z != 0) = true := by rw [bne_iff_ne]; exact hz0
            go_wp2_with fail
            go_quiet (fail)
            go_wp2
            go_ret
            exact ⟨ret_i HSpec.out.symm, below_drewN HBf.out _⟩
        · have t : ((m6 : Int) != (firedN s : Int)) = true := by rw [bne_iff_ne]; omega
          rw [if_pos (by rw [HOl.out]; simpa using hlen)] at HSpec
          go_wp2
          go_ret
          exact ⟨ret_i HSpec.out.symm, HB2.out.trans (HBr.out.mono HB2.out.size)⟩
end Go.Proofs.YtgcnijmmjlfabaaGreatDoor

namespace Go.Proofs.YtgcnijmmjlfabaaGreatDoor
open Go.RowKit Go.Shelf

/-- A part of a cell of the product. -/
def tmC (n : Nat) (a b : List Int) (i k j : Nat) : Int := sumN j fun t => a.getD (i * n + t) 0 * b.getD (t * n + k) 0
/-- The product of two square matrices, row by row. -/
def tmsL (n : Nat) (a b : List Int) : List Int := (List.range (n * n)).map fun p => tmC n a b (p / n) (p % n) n
theorem tmsL_len (n : Nat) (a b : List Int) : (tmsL n a b).length = n * n := by simp [tmsL]
theorem tmsL_at {n : Nat} {a b : List Int} {p : Nat} (h : p < n * n) : (tmsL n a b).getD p 0 = tmC n a b (p / n) (p % n) n := by
  rw [List.getD_eq_getElem?_getD, List.getElem?_eq_getElem (by rw [tmsL_len]; exact h)]
  simp [tmsL]
theorem tmC_zero (n : Nat) (a b : List Int) (i k : Nat) : tmC n a b i k 0 = 0 := rfl
theorem tmC_succ (n : Nat) (a b : List Int) (i k j : Nat) : tmC n a b i k (j + 1) = tmC n a b i k j + a.getD (i * n + j) 0 * b.getD (j * n + k) 0 := rfl
theorem mul_bd {A B x y : Int} (hx : -A ≤ x ∧ x ≤ A) (hy : -B ≤ y ∧ y ≤ B) (hA : 0 ≤ A) : -(A * B) ≤ x * y ∧ x * y ≤ A * B := by
  have h1 : x.natAbs * y.natAbs ≤ A.natAbs * B.natAbs := Nat.mul_le_mul (by omega) (by omega)
  have h2 : (x * y).natAbs ≤ (A * B).natAbs := by rw [Int.natAbs_mul, Int.natAbs_mul]; exact h1
  have h3 : 0 ≤ A * B := Int.mul_nonneg hA (by omega)
  omega
theorem tmC_bd {n : Nat} {a b : List Int} {A B C : Int} (ha : Bd A a) (hb : Bd B b) (hA : 0 ≤ A) (hC : A * B ≤ C) (i k j : Nat) : -(C * j) ≤ tmC n a b i k j ∧ tmC n a b i k j ≤ C * j := by
  induction j with
  | zero => simp [tmC_zero]
  | succ j ih =>
    have h := mul_bd (ha (i * n + j)) (hb (j * n + k)) hA
    rw [tmC_succ, show C * ((j + 1 : Nat) : Int) = C * j + C by rw [Int.natCast_succ, Int.mul_add, Int.mul_one]]
    omega
/-- The product, when the rows before i, the cells before k and a part of the cell k are there. -/
def TmR (n : Nat) (a b : List Int) (i k j : Nat) (os : List Int) : Prop :=
  os.length = n * n ∧ ∀ p, p < n * n → os.getD p 0 = if p < i * n + k then tmC n a b (p / n) (p % n) n else if p = i * n + k then tmC n a b i k j else 0
theorem TmR.start (n : Nat) (a b : List Int) : TmR n a b 0 0 0 (List.replicate (n * n) 0) := by
  refine ⟨by simp, fun p hp => ?_⟩
  rw [if_neg (by omega), tmC_zero, List.getD_eq_getElem?_getD, List.getElem?_replicate, if_pos hp]
  simp
theorem pos_lt {n i k : Nat} (hi : i < n) (hk : k < n) : i * n + k < n * n := by
  have : (i + 1) * n ≤ n * n := Nat.mul_le_mul_right n hi
  rw [Nat.succ_mul] at this
  omega
theorem TmR.cell {n : Nat} {a b : List Int} {i k j : Nat} {os : List Int} (h : TmR n a b i k j os) (hi : i < n) (hk : k < n) : os.getD (i * n + k) 0 = tmC n a b i k j := by
  rw [h.2 _ (pos_lt hi hk), if_neg (by omega), if_pos rfl]
theorem TmR.step {n : Nat} {a b : List Int} {i k j : Nat} {os : List Int} (h : TmR n a b i k j os) (hi : i < n) (hk : k < n) : TmR n a b i k (j + 1) (os.set (i * n + k) (tmC n a b i k (j + 1))) := by
  refine ⟨by rw [List.length_set]; exact h.1, fun p hp => ?_⟩
  rw [getD_set' (by rw [h.1]; exact pos_lt hi hk)]
  by_cases e : p = i * n + k
  · rw [if_pos e, if_neg (by omega), if_pos e]
  · rw [if_neg e, h.2 p hp, if_neg e, if_neg e]
theorem TmR.next {n : Nat} {a b : List Int} {i k : Nat} {os : List Int} (h : TmR n a b i k n os) (hk : k < n) : TmR n a b i (k + 1) 0 os := by
  refine ⟨h.1, fun p hp => ?_⟩
  rw [h.2 p hp]
  by_cases e : p < i * n + k
  · rw [if_pos e, if_pos (by omega)]
  · rw [if_neg e]
    by_cases e2 : p = i * n + k
    · have h1 : p / n = i := by rw [e2, Nat.mul_comm, Nat.mul_add_div (by omega), Nat.div_eq_of_lt hk, Nat.add_zero]
      have h2 : p % n = k := by rw [e2, Nat.mul_comm, Nat.mul_add_mod, Nat.mod_eq_of_lt hk]
      rw [if_pos e2, if_pos (by omega), h1, h2]
    · rw [if_neg e2, if_neg (by omega), tmC_zero, ite_self]
theorem TmR.row {n : Nat} {a b : List Int} {i : Nat} {os : List Int} (h : TmR n a b i n 0 os) : TmR n a b (i + 1) 0 0 os := by
  refine ⟨h.1, fun p hp => ?_⟩
  rw [h.2 p hp, tmC_zero, tmC_zero, Nat.succ_mul, Nat.add_zero]
theorem TmR.end_ {n : Nat} {a b : List Int} {os : List Int} (h : TmR n a b n 0 0 os) : os = tmsL n a b :=
  list_eq' (n := n * n) h.1 (tmsL_len n a b) fun p hp => by rw [h.2 p hp, if_pos (by omega), tmsL_at hp]
end Go.Proofs.YtgcnijmmjlfabaaGreatDoor

