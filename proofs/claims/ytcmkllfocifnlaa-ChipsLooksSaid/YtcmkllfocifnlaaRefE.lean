/- Contracts of the reference of layer 17: Count, Follows, Listed, All, Next. -/
import Derived.Test.YtcmkllfocifnlaaRefC
import Derived.Deep.LoopGhost
namespace Go.Proofs.Ytcmkllfocifnlaa
open Go.RowKit Go.Shelf

/-- s[k:] reads as what is left. -/
theorem RI.cut {w : World} {A : Option Addr} {n c : Nat} {zs : List Int} (h : RI w (.slice A n c) zs) {k : Nat} (hk : k ≤ n) : RI w (.slice (if c = k then A else A.map (·.add k)) (n - k) (c - k)) (zs.drop k) := by
  obtain ⟨A', c', e, h1, h2, h3⟩ := h.open_
  simp only [Value.slice.injEq] at e
  obtain ⟨rfl, rfl, rfl⟩ := e
  have key := RI.mk_ (w := w) (A := if c = k then A else A.map (·.add k)) (c := c - k) (zs := zs.drop k) (by simp; omega) (by simp; omega) fun j z hj => by
    rw [List.getElem?_drop] at hj
    have hl := (List.getElem?_eq_some_iff.1 hj).1
    obtain ⟨ad, z', rfl, hb, hz, hc⟩ := h3 (k + j) hl
    have e2 : z' = z := by have := hz.out; rw [hj] at this; exact (Option.some.inj this).symm
    subst e2
    rw [if_neg (by omega)]
    exact ⟨ad.add k, rfl, by rw [block_of_add]; exact hb, by rw [add_of_add]; exact hc⟩
  simpa using key

def NonNeg (zs : List Int) : Prop := ∀ z ∈ zs, 0 ≤ z ∧ z ≤ 1048576
theorem NonNeg.inB {zs : List Int} (h : NonNeg zs) : zs.all InB = true := List.all_eq_true.2 fun z hz => by have := h z hz; rw [inB_iff]; omega
theorem sum_zero_tail {zs : List Int} {k : Nat} (h : ∀ i, k < i → zs.getD i 0 = 0) : (zs.drop k).sum = zs.getD k 0 := by
  rcases Nat.lt_or_ge k zs.length with hk | hk
  · rw [List.drop_eq_getElem_cons hk, List.sum_cons]
    have : (zs.drop (k + 1)).sum = 0 := by
      have hz : ∀ z ∈ zs.drop (k + 1), z = 0 := by
        intro z hz
        obtain ⟨j, hj⟩ := List.getElem?_of_mem hz
        rw [List.getElem?_drop] at hj
        have := h (k + 1 + j) (by omega)
        rw [List.getD_eq_getElem?_getD, hj] at this
        simpa using this
      generalize zs.drop (k + 1) = l at hz
      clear h
      induction l with
      | nil => rfl
      | cons a r ih => rw [List.sum_cons, hz a (List.mem_cons_self ..), ih fun z hz' => hz z (List.mem_cons_of_mem _ hz')]; rfl
    rw [this, List.getD_eq_getElem?_getD, List.getElem?_eq_getElem hk]; simp
  · rw [List.drop_of_length_le hk, List.getD_eq_getElem?_getD, List.getElem?_eq_none hk]; rfl
theorem getD_mem_or {zs : List Int} (k : Nat) : zs.getD k 0 ∈ zs ∨ zs.getD k 0 = 0 := by
  rcases Nat.lt_or_ge k zs.length with hk | hk
  · left; rw [List.getD_eq_getElem?_getD, List.getElem?_eq_getElem hk]; exact List.getElem_mem _
  · right; rw [List.getD_eq_getElem?_getD, List.getElem?_eq_none hk]; rfl
/-- What Follows leaves, by places. -/
theorem follow_eq {zs os : List Int} {k : Nat} (hl : os.length = zs.length) (h1 : ∀ i, i < k → os.getD i 0 = zs.getD i 0) (hk : os.getD k 0 = zs.getD k 0 + 1) (h2 : ∀ i, k < i → i + 1 < zs.length → os.getD i 0 = 0)
    (h3 : os.getD (zs.length - 1) 0 = zs.getD (k + 1) 0 - 1) (hkl : k + 1 < zs.length) (hz : ∀ i, k + 1 < i → zs.getD i 0 = 0) :
    os = ((zs.set (k + 1) 0).set k (zs.getD k 0 + 1)).set (zs.length - 1) (zs.getD (k + 1) 0 - 1) := by
  apply List.ext_getElem
  · simp [hl]
  · intro i hi1 hi2
    have e : os[i] = os.getD i 0 := by rw [List.getD_eq_getElem?_getD, List.getElem?_eq_getElem hi1]; rfl
    rw [e]
    simp only [List.getElem_set]
    by_cases c1 : zs.length - 1 = i
    · rw [if_pos c1, ← c1, h3]
    · rw [if_neg c1]
      by_cases c2 : k = i
      · rw [if_pos c2, ← c2, hk]
      · rw [if_neg c2]
        by_cases c3 : k + 1 = i
        · rw [if_pos c3]; exact h2 i (by omega) (by omega)
        · rw [if_neg c3]
          rcases Nat.lt_or_ge i k with c4 | c4
          · rw [h1 i c4, List.getD_eq_getElem?_getD, List.getElem?_eq_getElem (by omega)]; rfl
          · rw [h2 i (by omega) (by omega)]
            have := hz i (by omega)
            rw [List.getD_eq_getElem?_getD, List.getElem?_eq_getElem (by omega)] at this
            exact this.symm

theorem getD_set_ne {l : List Int} {i j : Nat} (x : Int) (h : i ≠ j) : (l.set i x).getD j 0 = l.getD j 0 := by
  rw [List.getD_eq_getElem?_getD, List.getElem?_set_ne h, List.getD_eq_getElem?_getD]
theorem getD_set_eq {l : List Int} {i : Nat} (x : Int) (h : i < l.length) : (l.set i x).getD i 0 = x := by
  rw [List.getD_eq_getElem?_getD, List.getElem?_set_self h]; rfl

def followL (zs : List Int) : List Int × Bool := match stepR zs with | some r => (r, true) | none => ([], false)

set_option maxRecDepth 100000 in
set_option maxHeartbeats 2000000 in
theorem Follows_any (v : Value) (zs : List Int) (w : World) (hv : RI w v zs) (hn : NonNeg zs) (hl : zs.length ≤ 1000) (hl1 : 1 ≤ zs.length) :
    Calls Try.prog 73 #[v] w (PairB w (followL zs)) := by
  obtain ⟨i0, hi, hz0, hz1, hz2⟩ := info_parts int_info
  obtain ⟨A, c, rfl, hlc, hc, hcell⟩ := hv.open_
  have HA := Lib.hid hcell
  have HV := Lib.hid hv
  have HN := Lib.hid hn
  have HI := Lib.hid (ints_one zs)
  obtain ⟨n, hnz⟩ : ∃ n, zs.length = n + 1 := ⟨zs.length - 1, by omega⟩
  have HL := Lib.hid hnz
  rw [hnz] at hc hlc hl
  rw [hnz] at HV
  rw [hnz]
  clear hcell hv hn hnz hl1
  go_enter Try.func73, Try.ntmps73
  go_wp2
  go_loopw [5] (fun i wr => ∃ k : Nat, k ≤ n ∧ i = .int .i64 ((k : Int) - 1) ∧ Hid (∀ j, k < j → zs.getD j 0 = 0) ∧ wr = w) (fun i _ => (intOf i + 1).toNat)
  case atStart =>
    refine ⟨n, Nat.le_refl _, by first | rfl | (congr 1; omega), fun j hj => ?_, rfl⟩
    rw [List.getD_eq_getElem?_getD, List.getElem?_eq_none (by have := HL.out; omega)]; rfl
  case round =>
    obtain ⟨k, hk, rfl, hz, rfl⟩ := hrel
    rcases k with _ | k
    · have e : Hid (followL zs = ([], false)) := by show _ = _; unfold followL; rw [stepR_none fun i hi => hz.out i (by omega)]
      go_wp2
      rw [e.out]
      go_ret2
      exact ⟨.slice none 0 0, rfl, OI.nil_ _ _, Below.refl _ _⟩
    · rw [show (((k + 1 : Nat) : Int) - 1) = (k : Int) by omega]
      have hsum : Hid ((zs.drop (k + 1)).sum = zs.getD (k + 1) 0) := sum_zero_tail hz.out
      have hcut : Hid (RI wr (.slice (A.map (fun x => { block := x.block, off := x.off + (k + 1) })) (n - k) (c - (k + 1))) (zs.drop (k + 1))) := by
        have h := HV.out.cut (k := k + 1) (by omega)
        have e : (fun x : Addr => x.add (k + 1)) = fun x => { block := x.block, off := x.off + (k + 1) } := by funext x; simp [Addr.add]
        rw [if_neg (by omega), show n + 1 - (k + 1) = n - k by omega, e] at h
        exact h
      have hallb : Hid ((zs.drop (k + 1)).all InB = true) := List.all_eq_true.2 fun z hz => List.all_eq_true.1 HN.out.inB z (List.mem_of_mem_drop hz)
      have hnn : 0 ≤ zs.getD (k + 1) 0 ∧ zs.getD (k + 1) 0 ≤ 1048576 := by
        rcases getD_mem_or (zs := zs) (k + 1) with h | h
        · exact HN.out _ h
        · omega
      have hlk : Hid ((zs.drop (k + 1)).length ≤ 1073741824) := by show _ ≤ _; rw [List.length_drop, HL.out]; omega
      obtain ⟨r, hr⟩ : ∃ r, r = zs.getD (k + 1) 0 := ⟨_, rfl⟩
      rw [← hr] at hsum hnn
      have HR := Lib.hid hr
      clear hr
      have hkn : k + 1 ≤ n := hk
      go_wp2_with fail
      refine (Total_any _ _ _ hcut.out hallb.out hlk.out).mono ?_
      rintro e w' ⟨rfl, rfl⟩
      rw [hsum.out]
      by_cases hr0 : r = 0
      · have HZ0 : Hid (zs.getD (k + 1) 0 = 0) := by show _ = _; rw [← HR.out, hr0]
        subst hr0
        go_wp2
        go_roundw
        case rel => exact ⟨k, by omega, by go_num, fun j hj => (by
          rcases Nat.lt_or_ge (k + 1) j with h | h
          · exact hz.out j h
          · rw [show j = k + 1 by omega]; exact HZ0.out), trivial⟩
        case measure => simp [intOf]
      · have hrf : (r == 0) = false := by simp [hr0]
        have hr1 : 1 ≤ r := by omega
        have hr2 : r ≤ 1048576 := by omega
        have hd1 := Lib.hid (HV.out.below (below_alloc wr (.cells #[] 3)))
        have ho := Lib.hid (show OV (wr.alloc (.cells #[] 3)) wr.heap.size 3 (.slice (some ⟨wr.heap.size, 0, none⟩) 0 0) [] from
          ⟨World.ownsRow_made wr #[] 0 (Nat.le_refl _) (by unfold maxLen; omega) (by simp), by simp⟩)
        clear hnn hr0
        have hll : zs.length = n + 1 := HL.out
        obtain ⟨z, hzk⟩ : ∃ z, z = zs.getD k 0 := ⟨_, rfl⟩
        have hzb : 0 ≤ z ∧ z ≤ 1048576 := by
          rw [hzk]
          rcases getD_mem_or (zs := zs) k with h | h
          · exact HN.out _ h
          · omega
        have HZ := Lib.hid hzk
        have HLN := Lib.hid hll
        clear hzk hll
        go_wp2_with (at_builtin; refine wpList_appendV _ rfl _ _ _ rfl 3 i0 _ 8 Try.underlying23 hi hz0 hz1 hz2 rfl wr.heap.size _ [] rfl ho.out _ _ rfl hd1.out HI.out (by simp; have := HL.out; omega) (by simp; have := HL.out; omega) (by simp) ?_; intro v1 w1 hown1 hg1 hat1; clear hat1; obtain ⟨g, cap, ev, hgB, hgl⟩ := OV.shape hown1 (by simp; have := HL.out; omega); rw [show (([] : List Value) ++ zs.map (Value.int .i64)).length = n + 1 by simp [HL.out]] at ev; subst ev; have HO1 : Hid (OI w1 wr.heap.size (.slice (some ⟨g, 0, none⟩) (n + 1) cap) zs) := (by show OV _ _ _ _ _; simpa using hown1); have hbel := Lib.hid (below_own (below_alloc wr _) (by simp) ho.out hg1); obtain ⟨-, -, hc1, hf1, hst1⟩ := OI.at' HO1.out (k := k) (by have := HL.out; omega); rw [← HZ.out] at hc1; have HS1 := Lib.hid (hst1 (z + 1)).1; clear hst1 hown1 hg1)
        go_loopw [8] (fun i wx => ∃ (j : Nat) (os : List Int), k + 1 ≤ j ∧ j ≤ n + 1 ∧ i = .int .i64 j ∧ Hid (os.length = n + 1) ∧ Hid (∀ i, i < k → os.getD i 0 = zs.getD i 0) ∧ Hid (os.getD k 0 = zs.getD k 0 + 1) ∧ Hid (∀ i, k < i → i < j → os.getD i 0 = 0) ∧
          Hid (OI wx wr.heap.size (.slice (some ⟨g, 0, none⟩) (n + 1) cap) os) ∧ Hid (Below wr.heap.size wr wx)) (fun i _ => n + 1 - (intOf i).toNat)
        case atStart =>
          exact ⟨k + 1, zs.set k (z + 1), Nat.le_refl _, by omega, by go_num, by show _ = _; rw [List.length_set, HL.out], fun i h => by rw [getD_set_ne _ (by omega)], by show _ = _; rw [getD_set_eq _ (by have := HL.out; omega), HZ.out], fun i h1 h2 => by omega, HS1.out, hbel.out.setCell (p := ⟨g, k, none⟩) hgB _⟩
        case round =>
          obtain ⟨j, os, hj1, hj2, rfl, ho1, ho2, ho3, ho4, hown, hb2⟩ := hrel
          by_cases hlt : j < n + 1
          · obtain ⟨-, -, hc3, hf3, hst3⟩ := OI.at' hown.out (k := j) (by have := ho1.out; omega)
            have HS3 := Lib.hid (hst3 0).1
            clear hst3
            go_wp2
            go_roundw
            case rel => exact ⟨j + 1, os.set j 0, by omega, by omega, by go_num, by show _ = _; rw [List.length_set, ho1.out], fun i h => by rw [getD_set_ne _ (by omega)]; exact ho2.out i h, by show _ = _; rw [getD_set_ne _ (by omega)]; exact ho3.out, fun i h1 h2 => (by
              by_cases e : j = i
              · rw [← e, getD_set_eq _ (by have := ho1.out; omega)]
              · rw [getD_set_ne _ e]; exact ho4.out i h1 (by omega)), HS3.out, hb2.out.setCell (p := ⟨g, j, none⟩) hgB _⟩
            case measure => simp [intOf]; omega
          · obtain ⟨-, -, hc3, hf3, hst3⟩ := OI.at' hown.out (k := n) (by have := ho1.out; omega)
            have HS3 := Lib.hid (hst3 (r - 1)).1
            have E : Hid (followL zs = (os.set n (r - 1), true)) := by
              show _ = _
              have h0 : zs.getD (k + 1) 0 ≠ 0 := by rw [← HR.out]; omega
              have hlen := HL.out
              have hlo := ho1.out
              have e := follow_eq (zs := zs) (os := os.set n (r - 1)) (k := k) (by rw [List.length_set]; omega) (fun i h => by rw [getD_set_ne _ (by omega)]; exact ho2.out i h) (by rw [getD_set_ne _ (by omega)]; exact ho3.out)
                (fun i h1 h2 => by rw [getD_set_ne _ (by omega)]; exact ho4.out i h1 (by omega)) (by rw [show zs.length - 1 = n by omega, getD_set_eq _ (by omega), HR.out]) (by omega) hz.out
              unfold followL
              rw [stepR_at h0 hz.out, e]
            clear hst3
            go_wp2
            rw [E.out]
            go_ret2
            exact ⟨_, rfl, HS3.out, hb2.out.setCell (p := ⟨g, n, none⟩) hgB _⟩
end Go.Proofs.Ytcmkllfocifnlaa
