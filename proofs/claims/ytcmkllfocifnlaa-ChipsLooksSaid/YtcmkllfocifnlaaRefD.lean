/- Contracts of the reference of layer 17: Scale, Support. -/
import Derived.Test.YtcmkllfocifnlaaRefC
namespace Go.Proofs.Ytcmkllfocifnlaa
open Go.RowKit Go.Shelf

def scaleL (k : Int) (xs : List Int) : List Int × Int := if checkE xs xs.length ≠ 0 then ([], checkE xs xs.length) else if (xs.map (scaleF k)).all InB then (xs.map (scaleF k), 0) else ([], 11)
theorem scaleL_eq (k : Int) (xs : List Int) : eachL (fun x _ => scaleF k x) xs xs = scaleL k xs := by
  have h2 : ownE [xs, xs] = checkE xs xs.length := by by_cases h : checkE xs xs.length = 0 <;> simp [ownE, ownE1, h]
  unfold eachL scaleL
  rw [h2, zipWith_fst (scaleF k)]

set_option maxRecDepth 100000 in
set_option maxHeartbeats 2000000 in
theorem rScale_any (va : Value) (xs : List Int) (q : Int) (w : World) (ha : RI w va xs) : Calls Try.prog 54 #[va, .int .i64 q] w (Pair w (scaleL q xs)) := by
  obtain ⟨i0, hi, hz0, hz1, hz2⟩ := info_parts int_info
  have h1 := Lib.hid (Own_any va xs w ha)
  obtain ⟨A, c, rfl, hlc, hc, hcell⟩ := ha.open_
  have HA := Lib.hid hcell
  by_cases h0 : checkE xs xs.length = 0
  · obtain ⟨l2, l3, l4⟩ := checkE_zero h0
    have E : Hid (scaleL q xs = if (xs.map (scaleF q)).all InB then (xs.map (scaleF q), 0) else ([], 11)) := by show _ = _; simp [scaleL, h0]
    have L4 := Lib.hid l4
    rw [h0] at h1
    clear ha h0 l4 hcell
    obtain ⟨ms, hms⟩ : ∃ m, m = xs.map (scaleF q) := ⟨_, rfl⟩
    have HM := Lib.hid hms
    rw [← hms] at E
    clear hms
    go_enter Try.func54, Try.ntmps54
    go_wp2_with (first
      | (go_at_call 41; refine h1.out.mono ?_; rintro e w' ⟨rfl, rfl⟩)
      | (at_make; refine wpList_make_full _ rfl _ _ _ rfl w.heap.size 3 i0 _ 1 Try.underlying23 hi hz0 hz1 .i64 .i64 _ _ xs.length rfl rfl rfl rfl (by rw [hz2]; omega) (by unfold maxLen; omega) (by simp) ?_; intro w1 hown1 hg1; have HO1 := Lib.hid hown1; have HG1 := Lib.hid hg1; clear hown1 hg1))
    go_loopw [8] (fun i wr => ∃ (k : Nat) (os : List Int), k ≤ xs.length ∧ i = .int .i64 k ∧ Hid (os.length = xs.length) ∧ Hid (os.take k = ms.take k) ∧ Hid ((ms.take k).all InB = true) ∧ Hid (∀ j, k ≤ j → os.getD j 0 = 0) ∧
      Hid (OI wr w.heap.size (.slice (some ⟨w.heap.size, 0, none⟩) xs.length xs.length) os) ∧ Below w.heap.size w wr) (fun i _ => xs.length - (intOf i).toNat)
    case atStart => exact ⟨0, List.replicate xs.length 0, Nat.zero_le _, rfl, by simp [Hid], by simp [Hid], by simp [Hid], fun j _ => zeros_at _ _, own_zeros HO1.out (by omega), below_grown HG1.out (Below.refl _ _)⟩
    case round =>
      obtain ⟨k, os, hk, rfl, ho1, ho2, ho3, ho4, hown, hbel⟩ := hrel
      by_cases hlt : k < xs.length
      · obtain ⟨ad, z, rfl, hadb, hz, hcl⟩ := HA.out k hlt
        have hc1 : wr.cell? (ad.add k) = some (.int .i64 z) := (hbel.cell (by rw [block_of_add]; exact hadb)).trans hcl
        have hol : k < os.length := by have := ho1.out; omega
        obtain ⟨-, -, hc3, hf3, hst⟩ := OI.at' hown.out hol
        have hzb := inB_at L4.out hz.out
        have HS := Lib.hid hst
        have hz1' : Hid (ms[k]? = some (scaleF q z)) := by show _ = _; rw [HM.out, List.getElem?_map, hz.out]; rfl
        clear HA hst hcl
        have bad : ∀ (x : Int), scaleF q z = x → InB x = false → Pair w (scaleL q xs) (.returned (.tuple #[.slice none 0 0, .int .i64 11])) wr := by
          intro x hx hb
          have hall : ms.all InB = false := by rw [List.all_eq_false]; exact ⟨_, List.mem_of_getElem? hz1'.out, by rw [hx, hb]; simp⟩
          rw [E.out, if_neg (by rw [hall]; simp)]
          exact ⟨.slice none 0 0, rfl, OI.nil_ _ _, hbel⟩
        have BAD := Lib.hid bad
        clear bad
        by_cases hz0' : z = 0
        · have t1 : (z != 0) = false := by simp [hz0']
          have HZ := Lib.hid hz0'
          clear hz0'
          go_wp2
          go_roundw
          case rel =>
            have e0 : scaleF q z = 0 := by simp [scaleF, HZ.out]
            have z1 := hz1'.out
            rw [e0] at z1
            have ek : os[k]? = some 0 := by have := ho4.out k (Nat.le_refl _); rw [List.getD_eq_getElem?_getD, List.getElem?_eq_getElem hol] at this; rw [List.getElem?_eq_getElem hol]; simpa using this
            have es : os.set k 0 = os := by
              apply List.ext_getElem?; intro i; rw [List.getElem?_set]
              by_cases h : k = i
              · subst h; rw [if_pos rfl, if_pos hol, ek]
              · rw [if_neg h]
            refine ⟨k + 1, os, by omega, by go_num, ho1.out, ?_, ?_, fun j hj => ho4.out j (by omega), hown.out, hbel⟩
            · have := take_set_succ os ms k 0 hol z1 ho2.out; rwa [es] at this
            · show _ = true
              rw [all_take_succ _ k _ z1, ho3.out]; rfl
          case measure => simp [intOf]; omega
        · have t1 : (z != 0) = true := by simp [hz0']
          have HZ := Lib.hid hz0'
          clear hz0'
          cases hq : InB q
          · go_wp2_with (go_at_call 79; refine (In_any _ _).mono ?_; rintro e w' ⟨rfl, rfl⟩)
            go_ret2
            exact BAD.out 1048577 (by simp [scaleF, HZ.out, hq]) rfl
          · have hqb := (inB_iff q).1 hq
            have hm := mul_bd hqb.1 hqb.2 hzb.1 hzb.2
            have e0 : Hid (scaleF q z = q * z) := by show _ = _; simp [scaleF, HZ.out, hq]
            cases hqz : InB (q * z)
            · go_wp2_with (go_at_call 79; refine (In_any _ _).mono ?_; rintro e w' ⟨rfl, rfl⟩)
              go_ret2
              exact BAD.out (q * z) e0.out hqz
            · have HS2 := Lib.hid (HS.out (q * z))
              go_wp2_with (go_at_call 79; refine (In_any _ _).mono ?_; rintro e w' ⟨rfl, rfl⟩)
              have hst := HS2.out
              have z1 := hz1'.out
              rw [e0.out] at z1
              go_roundw
              case rel =>
                refine ⟨k + 1, os.set k (q * z), by omega, by go_num, by simpa [Hid] using ho1.out, take_set_succ os _ k _ hol z1 ho2.out, ?_, fun j hj => ?_, hst.1, hbel.setCell (p := ⟨w.heap.size, k, none⟩) (Nat.le_refl _) _⟩
                · show _ = true
                  rw [all_take_succ _ k _ z1, ho3.out, hqz]; rfl
                · rw [List.getD_eq_getElem?_getD, List.getElem?_set_ne (by omega), ← List.getD_eq_getElem?_getD]; exact ho4.out j (by omega)
              case measure => simp [intOf]; omega
      · go_wp2
        have h2 := ho2.out
        have h3 := ho3.out
        have hl : ms.length ≤ k := by rw [HM.out, List.length_map]; omega
        rw [List.take_of_length_le hl] at h3
        rw [List.take_of_length_le hl, List.take_of_length_le (by have := ho1.out; omega)] at h2
        rw [E.out, if_pos h3]
        go_ret2
        exact ⟨_, rfl, by rw [← h2]; exact hown.out, hbel⟩
  · have h0' : (checkE xs xs.length != 0) = true := by simp [h0]
    have E : Hid (scaleL q xs = ([], checkE xs xs.length)) := by show _ = _; simp [scaleL, h0]
    rw [E.out]
    clear ha h0 hcell
    go_enter Try.func54, Try.ntmps54
    go_wp2_with (go_at_call 41; refine h1.out.mono ?_; rintro e w' ⟨rfl, rfl⟩)
    go_ret2
    exact ⟨.slice none 0 0, rfl, OI.nil_ _ _, Below.refl _ _⟩

set_option maxRecDepth 100000 in
set_option maxHeartbeats 1000000 in
theorem rSupport_any (va : Value) (xs : List Int) (w : World) (ha : RI w va xs) : Calls Try.prog 36 #[va] w (Pair w (supL xs)) := by
  have h1 := Lib.hid (Own_any va xs w ha)
  obtain ⟨A, c, rfl, hlc, hc, hcell⟩ := ha.open_
  obtain ⟨i0, hi, hz0, hz1, hz2⟩ := info_parts int_info
  have HA := Lib.hid hcell
  clear hcell ha
  by_cases h0 : checkE xs xs.length = 0
  · obtain ⟨l1, l2, -⟩ := checkE_zero h0
    have H1 := Lib.hid h0
    rw [h0] at h1
    clear h0
    go_enter Try.func36, Try.ntmps36
    go_wp2_with (go_at_call 41; refine h1.out.mono ?_; rintro e w' ⟨rfl, rfl⟩)
    go_loopw [5, 6] (fun v i wr => ∃ (k : Nat) (os : List Int), k ≤ xs.length ∧ i = .int .i64 k ∧ os.length ≤ k ∧ Hid (os ++ supp k (xs.drop k) = supp 0 xs) ∧ Hid (OI wr w.heap.size v os) ∧ Below w.heap.size w wr) (fun _ i _ => xs.length - (intOf i).toNat)
    case atStart => exact ⟨0, [], Nat.zero_le _, rfl, by simp, rfl, OI.nil_ _ _, Below.refl _ _⟩
    case round =>
      obtain ⟨k, os, hk, rfl, hol, hs, hown, hbel⟩ := hrel
      by_cases hlt : k < xs.length
      · obtain ⟨ad, z, rfl, hadb, hz, hcl⟩ := HA.out k hlt
        have hc1 : wr.cell? (ad.add k) = some (.int .i64 z) := (hbel.cell (by rw [block_of_add]; exact hadb)).trans hcl
        have HD := Lib.hid (drop_at hz)
        clear HA hcl
        have hsz := hbel.size
        by_cases hz0' : z = 0
        · have hz' : (z != 0) = false := by simp [hz0']
          have HZ := Lib.hid hz0'
          clear hz0'
          go_wp2
          go_roundw
          case rel => exact ⟨k + 1, os, by omega, by go_num, by omega, by show _ = _; rw [← hs.out, HD.out, HZ.out]; simp [supp], hown, hbel⟩
          case measure => simp [intOf]; omega
        · have hz' : (z != 0) = true := by simp [hz0']
          have HZ := Lib.hid hz0'
          have h1 := Lib.hid (RV.one wr (.int .i64 k) 3)
          have ho := Lib.hid (hown.out.below (below_alloc wr (.cells #[.int .i64 k] 3)))
          clear hz0'
          go_wp2_with (at_builtin; refine wpList_appendV _ rfl _ _ _ rfl 3 i0 _ 8 Try.underlying22 hi hz0 hz1 hz2 rfl w.heap.size _ _ rfl ho.out _ _ rfl h1.out (one_one rfl) (by simp; omega) (by simp; omega) (by simp; omega) ?_; intro v1 w1 hown1 hg1 hat1)
          have HO := Lib.hid hown1
          clear hown1
          go_wp2
          go_roundw
          case rel => exact ⟨k + 1, os ++ [(k : Int)], by omega, by go_num, by simp; omega, by show _ = _; rw [← hs.out, HD.out]; simp [supp, HZ.out], by show OI _ _ _ _; simpa [OI] using HO.out, below_own (hbel.trans ((below_alloc wr _).mono hbel.size)) (by simp; omega) ho.out hg1⟩
          case measure => simp [intOf]; omega
      · go_wp2_with fail
        have := hs.out
        rw [List.drop_of_length_le (by omega)] at this
        simp only [supp, List.append_nil] at this
        have e1 : supL xs = (os, 0) := by simp only [supL, H1.out, ne_eq, not_true_eq_false, if_false, this]
        rw [e1]
        exact bodyPost_ret (results_tmp2 rfl _ _ _) rfl ⟨_, rfl, hown.out, hbel⟩
  · have h0' : (checkE xs xs.length != 0) = true := by simp [h0]
    have H1 : Hid (supL xs = ([], checkE xs xs.length)) := by show _ = _; simp [supL, h0]
    rw [H1.out]
    clear h0
    go_enter Try.func36, Try.ntmps36
    go_wp2_with (go_at_call 41; refine h1.out.mono ?_; rintro e w' ⟨rfl, rfl⟩)
    go_ret2
    exact ⟨.slice none 0 0, rfl, OI.nil_ _ _, Below.refl _ _⟩
end Go.Proofs.Ytcmkllfocifnlaa
