/- How great a determinant can be; its minors as the reference builds them, from lists. No program in sight.
   A list of lists of ints of the call's own: each row a slice of its own, and one append.
   Contract of the reference's det.
   Contract of the reference's table: the reduced Laplacian with a column replaced. -/
import Derived.Test.YtefggpdobjboeaaGreatG02
import Derived.Test.YtefggpdobjboeaaGreatG30
namespace Go.Proofs.YtefggpdobjboeaaGreat

theorem sumN_abs {n C : Nat} {f : Nat → Int} (h : ∀ i, i < n → (f i).natAbs ≤ C) : (sumN n f).natAbs ≤ n * C := by
  induction n with
  | zero => simp [sumN]
  | succ n ih =>
    have h1 := ih fun i hi => h i (by omega)
    have h2 := h n (by omega)
    have h3 := Int.natAbs_add_le (sumN n f) (f n)
    simp only [sumN]
    rw [Nat.succ_mul]
    omega
def bdN : Nat → Nat → Nat
  | 0, _ => 1
  | n + 1, B => (n + 1) * (B * bdN n B)
theorem sgn_abs (k : Nat) : (sgn k).natAbs = 1 := by unfold sgn; split <;> rfl
theorem detN_bd {n B : Nat} {M : Nat → Nat → Int} (h : ∀ i j, i < n → j < n → (M i j).natAbs ≤ B) : (detN n M).natAbs ≤ bdN n B := by
  induction n generalizing M with
  | zero => simp [detN, bdN]
  | succ n ih =>
    simp only [detN, bdN]
    refine sumN_abs fun k hk => ?_
    rw [Int.natAbs_mul, Int.natAbs_mul, sgn_abs, Nat.one_mul]
    refine Nat.mul_le_mul (h 0 k (by omega) hk) (ih fun i j hi hj => h (i + 1) (skip k j) (by omega) (by unfold skip; split <;> omega))

/-- A table given by its rows. -/
def tab (l : List (List Int)) (i j : Nat) : Int := (l.getD i []).getD j 0
/-- The row but the place k. -/
def dropAt (k : Nat) (r : List Int) : List Int := r.take k ++ r.drop (k + 1)
theorem dropAt_len {k : Nat} {r : List Int} (hk : k < r.length) : (dropAt k r).length + 1 = r.length := by simp [dropAt]; omega
theorem dropAt_get (k : Nat) (r : List Int) (hk : k < r.length) (j : Nat) : (dropAt k r).getD j 0 = r.getD (skip k j) 0 := by
  unfold dropAt skip
  rw [List.getD_eq_getElem?_getD, List.getD_eq_getElem?_getD, List.getElem?_append, List.length_take, Nat.min_eq_left (by omega)]
  split
  · next h => rw [List.getElem?_take_of_lt h]
  · next h => rw [List.getElem?_drop, show k + 1 + (j - k) = j + 1 by omega]
/-- The determinant of a table of rows, by the minors of the first row. -/
theorem detN_rows (n : Nat) (r : List Int) (l : List (List Int)) (hl : l.length = n) (hr : r.length = n + 1) (hall : ∀ x ∈ l, x.length = n + 1) :
    detN (n + 1) (tab (r :: l)) = sumN (n + 1) fun k => sgn k * r.getD k 0 * detN n (tab (l.map (dropAt k))) := by
  simp only [detN]
  refine sumN_congr fun k hk => ?_
  have e : detN n (fun i j => tab (r :: l) (i + 1) (skip k j)) = detN n (tab (l.map (dropAt k))) := by
    refine detN_congr fun i j hi hj => ?_
    show ((r :: l).getD (i + 1) []).getD (skip k j) 0 = ((l.map (dropAt k)).getD i []).getD j 0
    have hil : i < l.length := by omega
    have e1 : (r :: l).getD (i + 1) [] = l[i] := by simp [List.getD_eq_getElem?_getD, List.getElem?_eq_getElem hil]
    have e2 : (l.map (dropAt k)).getD i [] = dropAt k l[i] := by simp [List.getD_eq_getElem?_getD, List.getElem?_eq_getElem hil]
    rw [e1, e2, dropAt_get k l[i] (by rw [hall _ (List.getElem_mem hil)]; omega)]
  rw [e]
  rfl
end Go.Proofs.YtefggpdobjboeaaGreat

namespace Go.Proofs.YtefggpdobjboeaaGreat
open Go.RowKit Go.Shelf

theorem ints_info : (Tryz.prog.info? 25).map (fun i => (i.zero, i.size, i.bytes)) = some (some (.slice none 0 0), 1, 24) := by kernel_rfl
theorem OV.blk {w : World} {B : Nat} {e : TypeId} {v : Value} {us : List Value} (h : OV w B e v us) {k : Nat} (hk : v.ownBlock = some k) : ∃ cur, w.heap[k]? = some (.cells cur e (0, 0)) := by
  rcases h.1.2 with ⟨rfl, _⟩ | ⟨g, cap, cur, rfl, _, hh, _⟩
  · cases hk
  · simp only [Value.ownBlock, Option.some.injEq] at hk; subst hk; exact ⟨cur, hh⟩
theorem OV.keptBox {w w' : World} {B k : Nat} {e e' : TypeId} {v : Value} {us : List Value} {cs : Array Value} {fr : Nat × Nat} (h : OV w B e v us) (hb : w.heap[k]? = some (.cells cs e' fr)) (hne : e ≠ e') (hg : w.grownBy w' (some k)) : OV w' B e v us := by
  refine ⟨h.1.kept hg ?_, h.2⟩
  cases hv : v.ownBlock with
  | none => exact .inl rfl
  | some j =>
    right; intro ej
    obtain ⟨cur, hc⟩ := h.blk hv
    injection ej with ej
    subst ej
    rw [hb] at hc
    injection hc with hc
    injection hc with _ hc
    exact hne hc.symm
theorem OV.keptOwn {w w' : World} {B B' : Nat} {e e' : TypeId} {v v' : Value} {us us' : List Value} (h : OV w B e v us) (h' : OV w B' e' v' us') (hne : e ≠ e') (hg : w.grownBy w' v'.ownBlock) : OV w' B e v us := by
  cases hv : v'.ownBlock with
  | none => rw [hv] at hg; exact ⟨h.1.kept hg (by cases v.ownBlock <;> simp), h.2⟩
  | some k => rw [hv] at hg; obtain ⟨cur, hc⟩ := h'.blk hv; exact h.keptBox hc hne hg
/-- The list's own row, each element a slice of the call's own. -/
def OL (B : Nat) (W : World) (o : Value) (rows : List (List Int)) : Prop :=
  ∃ items : List (Value × List Int), OV W B 25 o (items.map (·.1)) ∧ items.map (·.2) = rows ∧ ∀ x ∈ items, OI W B x.1 x.2
theorem OL.nil_ (B : Nat) (W : World) : OL B W (.slice none 0 0) [] := ⟨[], OV.nil_ _ _ _, rfl, fun x hx => by simp at hx⟩
theorem OL.below {B : Nat} {w W : World} {o : Value} {rows : List (List Int)} (h : OL B w o rows) (hb : Below w.heap.size w W) : OL B W o rows := by
  obtain ⟨items, h1, h2, h3⟩ := h
  exact ⟨items, h1.below hb, h2, fun x hx => (h3 x hx).below hb⟩
theorem OL.mono {B B' : Nat} {w : World} {o : Value} {rows : List (List Int)} (h : OL B w o rows) (hB : B' ≤ B) : OL B' w o rows := by
  obtain ⟨items, h1, h2, h3⟩ := h
  exact ⟨items, h1.mono hB, h2, fun x hx => OV.mono (h3 x hx) hB⟩
theorem OL.rr {B : Nat} {W : World} {o : Value} {rows : List (List Int)} (h : OL B W o rows) : RR W o rows := by
  obtain ⟨items, h1, rfl, h3⟩ := h
  refine ⟨items.map (·.1), OV.rv h1, by simp, fun k z hk => ?_⟩
  rw [List.getElem?_map] at hk
  obtain ⟨x, hx, rfl⟩ := Option.map_eq_some_iff.1 hk
  exact ⟨x.1, by rw [List.getElem?_map, hx]; rfl, OV.rv (h3 x (List.mem_of_getElem? hx))⟩
/-- What the walk needs ahead of an append of a row, and what it has behind. -/
theorem OL.snoc {B : Nat} {w : World} {o : Value} {rows : List (List Int)} {A : Option Addr} {n c : Nat} {row : List Int} (h : OL B w o rows) (hr : OI w B (.slice A n c) row) :
    ∃ us : List Value, us.length = rows.length ∧ OV (w.alloc (.cells #[.slice A n c] 25)) B 25 o us ∧ RV (w.alloc (.cells #[.slice A n c] 25)) (.slice (some ⟨w.heap.size, 0, none⟩) 1 1) [.slice A n c] ∧
      ∀ v1 w3, OV w3 B 25 v1 (us ++ [.slice A n c]) → (w.alloc (.cells #[.slice A n c] 25)).grownBy w3 o.ownBlock → OL B w3 v1 (rows ++ [row]) ∧ ∀ (B0 : Nat) (w0 : World), Below B0 w0 w → B0 ≤ B → B ≤ w.heap.size → B0 ≤ w.heap.size → Below B0 w0 w3 := by
  obtain ⟨items, h1, rfl, h3⟩ := h
  have hba := below_alloc w (.cells #[.slice A n c] 25)
  have hov := h1.below hba
  refine ⟨items.map (·.1), by simp, hov, RV.ones w _ _, fun v1 w3 hown hg => ⟨⟨items ++ [(.slice A n c, row)], by simpa using hown, by simp, fun x hx => ?_⟩, fun B0 w0 hb h0 h4 h5 => ?_⟩⟩
  · rcases List.mem_append.1 hx with hx | hx
    · exact OV.keptOwn (OI.below (h3 x hx) hba) hov (by decide) hg
    · rw [List.mem_singleton.1 hx]; exact OV.keptOwn (OI.below hr hba) hov (by decide) hg
  · exact (hb.trans (hba.mono h5)).grown hg (by simp; omega) fun k hk => by have := (hov.1.lt k hk).1; omega

/-- The determinants' bound. -/
theorem bd_small : ∀ n, n ≤ 4 → bdN n 1000 ≤ 24000000000000 := by
  intro n h
  match n, h with
  | 0, _ => decide
  | 1, _ => decide
  | 2, _ => decide
  | 3, _ => decide
  | 4, _ => decide
/-- One step of a row without its place k. -/
theorem dropAt_step {k c : Nat} {x : List Int} (hc : c < x.length) : dropAt k (x.take (c + 1)) = if c = k then dropAt k (x.take c) else dropAt k (x.take c) ++ [x.getD c 0] := by
  have e : x.take (c + 1) = x.take c ++ [x.getD c 0] := by
    rw [List.take_add_one, List.getElem?_eq_getElem hc, List.getD_eq_getElem?_getD, List.getElem?_eq_getElem hc]; rfl
  have hl : (x.take c).length = c := by rw [List.length_take]; omega
  rw [e]
  generalize x.take c = l at *
  generalize x.getD c 0 = z at *
  subst hl
  unfold dropAt
  by_cases h : l.length = k
  · rw [if_pos h]
    subst h
    rw [List.take_left', List.take_of_length_le (Nat.le_refl _), List.drop_of_length_le (by simp), List.drop_of_length_le (by omega)]
    rfl
  · rw [if_neg h]
    by_cases h2 : l.length < k
    · rw [List.take_of_length_le (by simp; omega), List.drop_of_length_le (by simp; omega), List.take_of_length_le (by omega), List.drop_of_length_le (by omega), List.append_nil, List.append_nil]
    · rw [List.take_append_of_le_length (by omega), List.drop_append_of_le_length (by omega), List.append_assoc]
theorem rest_step {l : List (List Int)} {i k : Nat} (hi : 1 ≤ i) {x : List Int} (hx : l[i]? = some x) : ((l.take (i + 1)).drop 1).map (dropAt k) = ((l.take i).drop 1).map (dropAt k) ++ [dropAt k x] := by
  have hil : i < l.length := (List.getElem?_eq_some_iff.1 hx).1
  rw [List.take_add_one, hx, List.drop_append_of_le_length (by rw [List.length_take]; omega), List.map_append]
  rfl
/-- A part of the sum that makes a determinant. -/
def detK (l : List (List Int)) (k : Nat) : Int := sumN k fun k => sgn k * (l.headD []).getD k 0 * detN (l.length - 1) (tab ((l.drop 1).map (dropAt k)))
theorem detK_all {l : List (List Int)} (hn : 1 ≤ l.length) (hall : ∀ x ∈ l, x.length = l.length) : detK l l.length = detN l.length (tab l) := by
  obtain ⟨r, t, rfl⟩ : ∃ r t, l = r :: t := by
    cases l with
    | nil => simp at hn
    | cons r t => exact ⟨r, t, rfl⟩
  have h := detN_rows t.length r t rfl (by have := hall r (by simp); simpa using this) (fun x hx => by have := hall x (by simp [hx]); simpa using this)
  show _ = detN (t.length + 1) _
  rw [h]
  unfold detK
  simp
theorem tab_le {l : List (List Int)} {B : Nat} (h : ∀ x ∈ l, ∀ z ∈ x, z.natAbs ≤ B) (i j : Nat) : (tab l i j).natAbs ≤ B := by
  unfold tab
  rw [List.getD_eq_getElem?_getD, List.getD_eq_getElem?_getD]
  cases e : l[i]? with
  | none => simp
  | some x =>
    simp only [Option.getD_some]
    cases e2 : x[j]? with
    | none => simp
    | some z => exact h x (List.mem_of_getElem? e) z (List.mem_of_getElem? e2)
theorem dropAt_mem {k : Nat} {x : List Int} {z : Int} (h : z ∈ dropAt k x) : z ∈ x := by
  unfold dropAt at h
  rcases List.mem_append.1 h with h | h
  · exact List.mem_of_mem_take h
  · exact List.mem_of_mem_drop h
end Go.Proofs.YtefggpdobjboeaaGreat

namespace Go.Proofs.YtefggpdobjboeaaGreat
open Go.RowKit Go.Shelf

/-- What det answers of a table of n rows. -/
def DetC (n : Nat) : Prop := ∀ (l : List (List Int)) (v : Value) (w : World), RR w v l → l.length = n → (∀ x ∈ l, x.length = n) → (∀ x ∈ l, ∀ z ∈ x, z.natAbs ≤ 1000) →
  Calls Tryz.prog 84 #[v] w fun e w' => e = .returned (.int .i64 (detN n (tab l))) ∧ Below w.heap.size w w'
set_option maxRecDepth 100000 in
set_option maxHeartbeats 4000000 in
theorem rDet_zero : DetC 0 := by
  intro l v w hv hl _ _
  obtain ⟨A, c, rfl, -⟩ := hv.open_
  rw [hl]
  clear hv
  go_enter Tryz.func84, Tryz.ntmps84
  go_wp2
  go_ret
  exact ⟨rfl, Below.refl _ _⟩
theorem sgn_cases (k : Nat) : sgn k = 1 ∨ sgn k = -1 := by unfold sgn; split <;> simp
theorem abs_le {z : Int} {B : Nat} (h : z.natAbs ≤ B) : -(B : Int) ≤ z ∧ z ≤ B := by omega
set_option maxRecDepth 100000 in
set_option maxHeartbeats 8000000 in
theorem rDet_succ (n : Nat) (hn : n ≤ 4) (ih : DetC n) : DetC (n + 1) := by
  intro l v w hv hl hrow hz
  obtain ⟨A, c, rfl, hlc, hc, hcell⟩ := hv.open_
  obtain ⟨i0, hi, hz0, hz1, hz2⟩ := info_parts int_info
  obtain ⟨j0, hj, hj0, hj1, hj2⟩ := info_parts ints_info
  have HC := Lib.hid hcell
  have hDA := detK_all (l := l) (by omega) (by rw [hl]; exact hrow)
  rw [hl] at hDA
  obtain ⟨r0, t0, hrt⟩ : ∃ r t, l = r :: t := by
    cases l with
    | nil => simp at hl
    | cons r t => exact ⟨r, t, rfl⟩
  have htl : t0.length = n := by rw [hrt] at hl; simpa using hl
  have HT : Hid (l.drop 1 = t0) := by show _ = _; rw [hrt]; rfl
  have HH : Hid (l[0]? = some r0) := by show _ = _; rw [hrt]; rfl
  have hbt : ∀ k, (detN n (tab (t0.map (dropAt k)))).natAbs ≤ 24000000000000 := fun k =>
    Nat.le_trans (detN_bd fun i j _ _ => tab_le (fun x hx z hzx => by
      obtain ⟨y, hy, rfl⟩ := List.mem_map.1 hx
      exact hz y (by rw [hrt]; simp [hy]) z (dropAt_mem hzx)) i j) (bd_small n hn)
  have hr0 : ∀ k, (r0.getD k 0).natAbs ≤ 1000 := fun k => by
    rw [List.getD_eq_getElem?_getD]
    cases e : r0[k]? with
    | none => simp
    | some z => exact hz r0 (by rw [hrt]; simp) z (List.mem_of_getElem? e)
  have hr0l : r0.length = n + 1 := hrow r0 (by rw [hrt]; simp)
  have HSt : Hid (∀ k : Nat, detK l (k + 1) = detK l k + sgn k * r0.getD k 0 * detN n (tab (t0.map (dropAt k)))) := fun k => by
    show sumN (k + 1) _ = _
    rw [hrt]
    simp only [sumN, List.headD_cons, List.length_cons, Nat.add_sub_cancel, List.drop_succ_cons, List.drop_zero, htl]
    unfold detK
    simp only [List.headD_cons, List.length_cons, Nat.add_sub_cancel, List.drop_succ_cons, List.drop_zero, htl]
  have HBk : Hid (∀ k : Nat, -(24000000000000000 * (k : Int)) ≤ detK l k ∧ detK l k ≤ 24000000000000000 * k) := fun k => by
    induction k with
    | zero => exact ⟨Int.le_refl 0, Int.le_refl 0⟩
    | succ k ihk =>
      rw [HSt.out k]
      have b1 := abs_le (hr0 k)
      have b2 := abs_le (hbt k)
      have b3 := mul_abs (X := 1000) (Y := 24000000000000) b1.1 b1.2 b2.1 b2.2
      rcases sgn_cases k with e | e
      · rw [e, Int.one_mul]; push_cast; omega
      · rw [e, show (-1 : Int) * r0.getD k 0 * detN n (tab (t0.map (dropAt k))) = -(r0.getD k 0 * detN n (tab (t0.map (dropAt k)))) by rw [Int.neg_mul, Int.one_mul, Int.neg_mul]]
        push_cast; omega
  have HL := Lib.hid hl
  have HRow := Lib.hid hrow
  have HZ := Lib.hid hz
  have HBt := Lib.hid hbt
  have HR0 := Lib.hid hr0
  have HR0l := Lib.hid hr0l
  have HTl := Lib.hid htl
  have HDA := Lib.hid hDA
  have HIH := Lib.hid ih
  have t1 : (l.length == 0) = false := by rw [beq_eq_false_iff_ne]; omega
  clear hcell hv hl hrow hz hbt hr0 hr0l htl hDA ih hrt
  go_enter Tryz.func84, Tryz.ntmps84
  go_wp2
  simp only [show ((l.length : Int) == 0) = false by assumption]
  go_loopw [3, 4, 5] (fun s g i wr => ∃ k : Nat, k ≤ l.length ∧ s = .int .i64 (detK l k) ∧ g = .int .i64 (sgn k) ∧ i = .int .i64 (k : Int) ∧ Hid (Below w.heap.size w wr)) (fun _ _ i _ => l.length - (intOf i).toNat)
  case atStart => exact ⟨0, Nat.zero_le _, rfl, rfl, rfl, Below.refl _ _⟩
  case round =>
    obtain ⟨k, hk, rfl, rfl, rfl, hb⟩ := hrel
    by_cases hlt : k < l.length
    · go_wp2_with fail
      obtain ⟨wo, rfl⟩ : ∃ wo, wo = wr := ⟨_, rfl⟩
      go_loopw [6, 7] (fun o i wr => ∃ (i' : Nat) (vo : Value), vo = o ∧ 1 ≤ i' ∧ i' ≤ l.length ∧ i = .int .i64 (i' : Int) ∧ Hid (OL w.heap.size wr o (((l.take i').drop 1).map (dropAt k))) ∧ Hid (Below w.heap.size w wr)) (fun _ i _ => l.length - (intOf i).toNat)
      case atStart => exact ⟨1, _, rfl, Nat.le_refl _, by omega, rfl, by rw [List.drop_of_length_le (by rw [List.length_take]; omega : (l.take 1).length ≤ 1)]; exact OL.nil_ _ _, hb.out⟩
      case round =>
        obtain ⟨i, vo, rfl, hi1, hil, rfl, ho, hbi⟩ := hrel
        by_cases hit : i < l.length
        · obtain ⟨ad, x, A1, c1, hA, hadb, hx, hcl, hxr⟩ := HC.out i hit
          have hxl : x.length = n + 1 := HRow.out x (List.mem_of_getElem? hx.out)
          obtain ⟨A1', c1', he, -, -, hxc⟩ := hxr.open_
          simp only [Value.slice.injEq, true_and] at he
          obtain ⟨rfl, rfl⟩ := he
          have HXC := Lib.hid hxc
          have HXL := Lib.hid hxl
          have hcl1 : wr.cell? (ad.add i) = some (.slice A1 x.length c1) := (hbi.out.cell (by rw [block_of_add]; exact hadb)).trans hcl
          have hlx : l.length ≤ x.length ∧ x.length ≤ l.length := by rw [HL.out, hxl]; omega
          subst hA
          clear hcl hxc hxl hxr
          go_wp2_with fail
          obtain ⟨wi, rfl⟩ : ∃ wi, wi = wr := ⟨_, rfl⟩
          go_loopw [8, 9] (fun o j wr => ∃ (j' : Nat) (vj : Value), vj = o ∧ j' ≤ l.length ∧ j = .int .i64 (j' : Int) ∧ Hid (OI wr wi.heap.size o (dropAt k (x.take j'))) ∧ Hid (Below wi.heap.size wi wr)) (fun _ j _ => l.length - (intOf j).toNat)
          case atStart => exact ⟨0, _, rfl, Nat.zero_le _, rfl, by rw [show dropAt k (x.take 0) = [] by simp [dropAt]]; exact OI.nil_ _ _, Below.refl _ _⟩
          case round =>
            obtain ⟨j, vj, rfl, hj', rfl, hoj, hbj⟩ := hrel
            by_cases hjt : j < l.length
            · by_cases hjk : j = k
              · have t1 : ((j : Int) != (k : Int)) = false := by simp; omega
                have hst := dropAt_step (k := k) (c := j) (x := x) (by omega)
                rw [if_pos hjk] at hst
                have HSt2 := Lib.hid hst
                clear hst hjk
                go_wp2
                go_roundw
                case rel => exact ⟨j + 1, _, rfl, by omega, by go_num, by rw [HSt2.out]; exact hoj.out, hbj.out⟩
                case measure => simp [intOf]; omega
              · have t1 : ((j : Int) != (k : Int)) = true := by simp; omega
                have hst := dropAt_step (k := k) (c := j) (x := x) (by omega)
                rw [if_neg hjk] at hst
                obtain ⟨ad2, z, hA2, hadb2, hzz, hcz⟩ := HXC.out j (by omega)
                subst hA2
                have hzg : x.getD j 0 = z := by rw [List.getD_eq_getElem?_getD, hzz.out]; rfl
                rw [hzg] at hst
                have q1 : wr.cell? (ad.add i) = some (.slice (some ad2) x.length c1) := (hbj.out.cell (block_lt_of_cell hcl1)).trans hcl1
                have q2 : wr.cell? (ad2.add j) = some (.int .i64 z) := (hbj.out.cell (by rw [block_of_add]; have := hbi.out.size; omega)).trans ((hbi.out.cell (by rw [block_of_add]; exact hadb2)).trans hcz)
                have hdl : (dropAt k (x.take j)).length ≤ j := by unfold dropAt; simp; omega
                have HSt2 := Lib.hid hst
                have hjx : j < x.length := by omega
                have hsz := hbj.out.size
                have h1 := Lib.hid (RV.ones wr (.int .i64 z) 3)
                have ho1 := Lib.hid (hoj.out.below (below_alloc wr (.cells #[.int .i64 z] 3)))
                clear hst hjk hzg hcz hoj
                generalize dropAt k (x.take j) = os at *
                go_wp2_with (at_builtin; refine wpList_appendV _ rfl _ _ _ rfl 3 i0 _ 8 Tryz.underlying25 hi hz0 hz1 hz2 rfl wi.heap.size _ _ rfl ho1.out _ _ rfl h1.out (one_ones rfl) (by simp; omega) (by simp; omega) (by simp; omega) ?_; intro v1 w1 hown1 hg1 hat1)
                have HO := Lib.hid hown1
                clear hown1
                go_wp2
                go_roundw
                case rel => exact ⟨j + 1, _, rfl, by omega, by go_num, by rw [HSt2.out]; show OI _ _ _ _; simpa [OI] using HO.out, below_own (hbj.out.trans ((below_alloc wr _).mono hbj.out.size)) (by simp; omega) ho1.out hg1⟩
                case measure => simp [intOf]; omega
            · obtain rfl : j = l.length := by omega
              have hfull : dropAt k (x.take l.length) = dropAt k x := by rw [List.take_of_length_le (by omega)]
              rw [hfull] at hoj
              have hol : OL w.heap.size wr vo (((l.take i).drop 1).map (dropAt k)) := OL.below ho.out hbj.out
              have hor : OI wr w.heap.size vj (dropAt k x) := OV.mono hoj.out hbi.out.size
              obtain ⟨A3, c3, hv3, -⟩ := hor.ri.open_
              subst hv3
              obtain ⟨us, hul, hov, hrv, hfin⟩ := OL.snoc hol hor
              have HOv := Lib.hid hov
              have HRv := Lib.hid hrv
              have HFin := Lib.hid hfin
              have hus : us.length ≤ l.length := by rw [hul, List.length_map, List.length_drop, List.length_take]; omega
              have HRs := Lib.hid (rest_step (k := k) hi1 hx.out)
              have HBw := Lib.hid (hbi.out.trans (hbj.out.mono hbi.out.size))
              have hszw := HBw.out.size
              have hl5 : l.length ≤ 5 := by rw [HL.out]; omega
              clear hul hov hrv hfin hol hor hoj ho hcl1
              go_wp2_with (at_builtin; refine wpList_appendV _ rfl _ _ _ rfl 25 j0 _ 24 Tryz.underlying41 hj hj0 hj1 hj2 rfl w.heap.size _ _ rfl HOv.out _ _ rfl HRv.out (one_ones rfl) (by simp; omega) (by simp; omega) (by simp; omega) ?_; intro v1 w1 hown1 hg1 hat1)
              obtain ⟨hf1, hf2⟩ := HFin.out v1 w1 hown1 hg1
              have HF1 := Lib.hid hf1
              have HF2 := Lib.hid (hf2 w.heap.size w HBw.out (Nat.le_refl _) hszw hszw)
              clear hown1 hg1 hat1 hf1 hf2
              go_wp2
              go_roundw
              case rel => exact ⟨i + 1, _, rfl, by omega, by omega, by go_num, by rw [HRs.out]; exact HF1.out, HF2.out⟩
              case measure => simp [intOf]; omega
        · obtain rfl : i = l.length := by omega
          have hfull : ((l.take l.length).drop 1).map (dropAt k) = t0.map (dropAt k) := by rw [List.take_of_length_le (Nat.le_refl _), HT.out]
          rw [hfull] at ho
          have hrr := ho.out.rr
          have hdet := HIH.out (t0.map (dropAt k)) vo wr.drew (RR.below hrr (Below.refl _ _).drew) (by rw [List.length_map]; exact HTl.out) (fun x hx => by
            obtain ⟨y, hy, rfl⟩ := List.mem_map.1 hx
            have hy' : y ∈ l := List.mem_of_mem_drop (i := 1) (by rw [HT.out]; exact hy)
            have h1 := HRow.out y hy'
            have := dropAt_len (k := k) (r := y) (by rw [h1, ← HL.out]; exact hlt)
            omega) (fun x hx z hzx => by
            obtain ⟨y, hy, rfl⟩ := List.mem_map.1 hx
            exact HZ.out y (List.mem_of_mem_drop (i := 1) (by rw [HT.out]; exact hy)) z (dropAt_mem hzx))
          obtain ⟨ad, x, A1, c1, hA, hadb, hx, hcl, hxr⟩ := HC.out 0 (by omega)
          subst hA
          have hx0 : x = r0 := Option.some.inj (hx.out.symm.trans HH.out)
          subst hx0
          obtain ⟨A1', c1', he, -, -, hxc⟩ := hxr.open_
          simp only [Value.slice.injEq, true_and] at he
          obtain ⟨rfl, rfl⟩ := he
          obtain ⟨ad2, z, hA2, hadb2, hzz, hcz⟩ := hxc k (by rw [HR0l.out, ← HL.out]; exact hlt)
          subst hA2
          have hzg : x.getD k 0 = z := by rw [List.getD_eq_getElem?_getD, hzz.out]; rfl
          rw [show ad.add 0 = ad by simp [Addr.add]] at hcl
          have q1 : wr.cell? ad = some (.slice (some ad2) x.length c1) := (hbi.out.cell hadb).trans hcl
          have hsg : -1 ≤ sgn k ∧ sgn k ≤ 1 := by rcases sgn_cases k with e | e <;> omega
          have q2 : wr.cell? (ad2.add k) = some (.int .i64 z) := (hbi.out.cell (by rw [block_of_add]; exact hadb2)).trans hcz
          have hkx : k < x.length := by rw [HR0l.out, ← HL.out]; exact hlt
          have hst := HSt.out k
          rw [hzg] at hst
          have b1 := abs_le (hzg ▸ HR0.out k)
          have b2 := abs_le (HBt.out k)
          have b3 := mul_abs (X := 1000) (Y := 24000000000000) b1.1 b1.2 b2.1 b2.2
          have bk := HBk.out k
          have hlpos : 0 < l.length := by omega
          have hk5 : k ≤ 4 := by have := HL.out; omega
          have HSg := Lib.hid (sgn_succ k)
          have HDet := Lib.hid hdet
          have HStp := Lib.hid hst
          clear hdet hst hcl hxc hxr hcz hzg hfull ho hrr hadb hadb2
          by_cases hz0' : z = 0
          · have t2 : (z != 0) = false := by simp [hz0']
            have HE : Hid (detK l (k + 1) = detK l k) := by show _ = _; rw [HStp.out, hz0']; simp
            clear hz0' HStp
            go_wp2
            go_roundw
            case rel => exact ⟨k + 1, by omega, by rw [HE.out], by rw [HSg.out], by go_num, hbi.out⟩
            case measure => simp [intOf]; omega
          · have t2 : (z != 0) = true := by simp [hz0']
            have e1 : -1000 ≤ sgn k * z ∧ sgn k * z ≤ 1000 := by
              rcases sgn_cases k with e | e
              · rw [e, Int.one_mul]; omega
              · rw [e, show (-1 : Int) * z = -z by omega]; omega
            have e2 := mul_abs (X := 1000) (Y := 24000000000000) e1.1 e1.2 b2.1 b2.2
            have HK0 : Hid (wr.drew.cell? ad = some (.slice (some ad2) x.length c1) ∧ wr.drew.cell? (ad2.add k) = some (.int .i64 z)) := ⟨q1, q2⟩
            have HK1 : Hid (∀ w1, Below wr.drew.heap.size wr.drew w1 → w1.cell? ad = some (.slice (some ad2) x.length c1) ∧ w1.cell? (ad2.add k) = some (.int .i64 z)) := fun w1 h =>
              ⟨(h.cell (p := ad) (block_lt_of_cell q1)).trans q1, (h.cell (p := ad2.add k) (block_lt_of_cell q2)).trans q2⟩
            clear hz0' b1 b2 b3 HBt HR0
            generalize detN n (tab (t0.map (dropAt k))) = D at *
            generalize sgn k = sg at *
            generalize hp1 : sg * z = y1 at *
            generalize hp2 : y1 * D = y2 at *
            generalize detK l k = dk at *
            have HW1 : Hid (IntKind.i64.wrap y1 = y1) := IntWalk.i64_in _ (by omega)
            have HW2 : Hid (IntKind.i64.wrap y2 = y2) := IntWalk.i64_in _ (by omega)
            have HW3 : Hid (IntKind.i64.wrap (dk + y2) = dk + y2) := IntWalk.i64_in _ (by omega)
            have HP2 := Lib.hid hp2
            go_wp2_with fail
            go_region_held3 (fun W' : World => W'.cell? ad = some (.slice (some ad2) x.length c1) ∧ W'.cell? (ad2.add k) = some (.int .i64 z)) (first | exact HK0.out | exact HKw.out) (first | (go_at_call 84; refine HDet.out.mono ?_; rintro e w6 ⟨rfl, hb6⟩; have HKw := Lib.hid (HK1.out w6 hb6); have HBw := Lib.hid (hbi.out.trans ((Below.refl _ _).drew.trans (hb6.mono (Nat.le_refl _)) |>.mono hbi.out.size)); clear hb6))
            all_goals
              go_wp2
              go_roundw
              case rel => exact ⟨k + 1, by omega, by rw [HStp.out, HW1.out, HP2.out, HW2.out, HW3.out], by rw [HSg.out], by go_num, HBw.out⟩
              case measure => simp [intOf]; omega
    · obtain rfl : k = l.length := by omega
      have HD2 : Hid (detK l l.length = detN (n + 1) (tab l)) := by show _ = _; rw [HL.out]; exact HDA.out
      go_wp2
      go_ret
      exact ⟨ret_i HD2.out, hb.out⟩
theorem rDet_any (n : Nat) (hn : n ≤ 5) : DetC n := by
  induction n with
  | zero => exact rDet_zero
  | succ n ih => exact rDet_succ n (by omega) (ih (by omega))
end Go.Proofs.YtefggpdobjboeaaGreat

namespace Go.Proofs.YtefggpdobjboeaaGreat
open Go.RowKit Go.Shelf

/-- The first k vertices but q. -/
def offQ (q k : Nat) : List Nat := (List.range k).filter fun i => decide (i ≠ q)
theorem offQ_succ (q k : Nat) : offQ q (k + 1) = if k = q then offQ q k else offQ q k ++ [k] := by
  unfold offQ
  rw [List.range_succ, List.filter_append]
  by_cases h : k = q
  · rw [if_pos h]; simp [h]
  · rw [if_neg h]; simp [h]
theorem offQ_len_le (q k : Nat) : (offQ q k).length ≤ k := by
  have := List.length_filter_le (fun i => decide (i ≠ q)) (List.range k)
  rw [List.length_range] at this
  exact this
theorem offQ_low {q k : Nat} (h : k ≤ q) : offQ q k = List.range k := by
  unfold offQ
  rw [List.filter_eq_self]
  intro i hi
  have := List.mem_range.1 hi
  simp; omega
theorem offQ_skip {q m : Nat} (h : q < m + 1) : offQ q (m + 1) = (List.range m).map (skip q) := by
  induction m with
  | zero =>
    obtain rfl : q = 0 := by omega
    rfl
  | succ m ih =>
    rw [offQ_succ]
    by_cases e : m + 1 = q
    · rw [if_pos e, offQ_low (by omega)]
      subst e
      refine (List.map_id _).symm.trans (List.map_congr_left fun i hi => ?_)
      have := List.mem_range.1 hi
      unfold skip
      rw [if_pos (by omega)]; rfl
    · rw [if_neg e, ih (by omega), List.range_succ (n := m), List.map_append]
      congr 1
      show [m + 1] = [skip q m]
      unfold skip
      rw [if_neg (by omega)]
def tblR (n : Nat) (es : List Tri) (q : Nat) (col : Int) (d : List Int) (i k : Nat) : List Int := (offQ q k).map fun (j : Nat) => if (j : Int) = col then d.getD i 0 else entE n es i j
def tblL (n : Nat) (es : List Tri) (q : Nat) (col : Int) (d : List Int) (k : Nat) : List (List Int) := (offQ q k).map fun i => tblR n es q col d i n
theorem tblR_len (n : Nat) (es : List Tri) (q : Nat) (col : Int) (d : List Int) (i k : Nat) : (tblR n es q col d i k).length ≤ k := by unfold tblR; rw [List.length_map]; exact offQ_len_le q k
theorem tblL_len (n : Nat) (es : List Tri) (q : Nat) (col : Int) (d : List Int) (k : Nat) : (tblL n es q col d k).length ≤ k := by unfold tblL; rw [List.length_map]; exact offQ_len_le q k
theorem tblR_succ (n : Nat) (es : List Tri) (q : Nat) (col : Int) (d : List Int) (i k : Nat) : tblR n es q col d i (k + 1) = if k = q then tblR n es q col d i k else tblR n es q col d i k ++ [if (k : Int) = col then d.getD i 0 else entE n es i k] := by
  unfold tblR
  rw [offQ_succ]
  by_cases h : k = q
  · rw [if_pos h, if_pos h]
  · rw [if_neg h, if_neg h, List.map_append]; rfl
theorem tblL_succ (n : Nat) (es : List Tri) (q : Nat) (col : Int) (d : List Int) (k : Nat) : tblL n es q col d (k + 1) = if k = q then tblL n es q col d k else tblL n es q col d k ++ [tblR n es q col d k n] := by
  unfold tblL
  rw [offQ_succ]
  by_cases h : k = q
  · rw [if_pos h, if_pos h]
  · rw [if_neg h, if_neg h, List.map_append]; rfl
set_option maxRecDepth 100000 in
set_option maxHeartbeats 8000000 in
theorem rTbl_any (g vd : Value) (n q : Nat) (col : Int) (es : List Tri) (d : List Int) (w : World) (hg : GV w g n es) (hd : RI w vd d) (hE : Edges n es) (hn : n ≤ 12) (hdl : d.length = n) :
    Calls Tryz.prog 85 #[g, .int .i64 (q : Int), .int .i64 col, vd] w fun e w' => ∃ v, e = .returned v ∧ OL w.heap.size w' v (tblL n es q col d n) ∧ Below w.heap.size w w' := by
  obtain ⟨A2, c2, rfl, -⟩ := hd.open_
  obtain ⟨i0, hi, hz0, hz1, hz2⟩ := info_parts int_info
  obtain ⟨j0, hj, hj0, hj1, hj2⟩ := info_parts ints_info
  obtain ⟨A, c, rfl, -⟩ := hg.open_
  obtain ⟨W0, hW0⟩ : ∃ W0, W0 = w.alloc (.cells #[.int .i64 (n:Int), .slice A es.length c] 24) := ⟨_, rfl⟩
  have hb0 : Below w.heap.size w W0 := by rw [hW0]; exact below_alloc w _
  have hx0 : BL W0 w.heap.size 24 [.int .i64 (n:Int), .slice A es.length c] := by rw [hW0]; exact BL.new' w _ _
  have c0 := hx0.cell 0
  have c1 := hx0.cell 1
  have HX0 := Lib.hid hx0
  have HG0 := Lib.hid (hg.below hb0)
  have HB0 := Lib.hid hb0
  have HW0 := Lib.hid hW0
  rw [hW0] at c0 c1
  clear hg hx0 hW0
  have hz0' : W0.heap.size = w.heap.size + 1 := by rw [HW0.out]; simp
  obtain ⟨A3, c3, he3, -, -, hcell⟩ := (RI.below hd hb0).open_
  simp only [Value.slice.injEq, true_and] at he3
  obtain ⟨rfl, rfl⟩ := he3
  have HC := Lib.hid hcell
  have HE := Lib.hid hE
  have HZ0 := Lib.hid hz0'
  have HDl := Lib.hid hdl
  clear hcell hd hE hb0 hz0' hdl
  go_enter Tryz.func85, Tryz.ntmps85
  go_wp2_with fail
  rw [← HW0.out]
  clear c0 c1
  go_loopw [9, 10] (fun o i wr => ∃ (i' : Nat) (vo : Value), vo = o ∧ i' ≤ n ∧ i = .int .i64 (i' : Int) ∧ Hid (OL W0.heap.size wr o (tblL n es q col d i')) ∧ Hid (Below W0.heap.size W0 wr)) (fun _ i _ => n - (intOf i).toNat)
  case atStart => exact ⟨0, _, rfl, Nat.zero_le _, rfl, OL.nil_ _ _, Below.refl _ _⟩
  case round =>
    obtain ⟨i, vo, rfl, hin, rfl, ho, hbi⟩ := hrel
    have d0 := (HX0.out.bel hbi.out).cell 0
    by_cases hit : i < n
    · by_cases hiq : i = q
      · have t1 : ((i : Int) == (q : Int)) = true := by simp; omega
        have hst := tblL_succ n es q col d i
        rw [if_pos hiq] at hst
        have HSt := Lib.hid hst
        clear hst hiq
        go_wp2
        go_roundw
        case rel => exact ⟨i + 1, _, rfl, by omega, by go_num, by rw [HSt.out]; exact ho.out, hbi.out⟩
        case measure => simp [intOf]; omega
      · have t1 : ((i : Int) == (q : Int)) = false := by simp; omega
        have hst := tblL_succ n es q col d i
        rw [if_neg hiq] at hst
        have HSt := Lib.hid hst
        clear hst hiq
        go_wp2_with fail
        clear d0
        obtain ⟨wi, rfl⟩ : ∃ wi, wi = wr := ⟨_, rfl⟩
        go_loopw [11, 12] (fun o j wr => ∃ (j' : Nat) (vj : Value), vj = o ∧ j' ≤ n ∧ j = .int .i64 (j' : Int) ∧ Hid (OI wr wi.heap.size o (tblR n es q col d i j')) ∧ Hid (Below wi.heap.size wi wr)) (fun _ j _ => n - (intOf j).toNat)
        case atStart => exact ⟨0, _, rfl, Nat.zero_le _, rfl, by rw [show tblR n es q col d i 0 = [] from rfl]; exact OI.nil_ _ _, Below.refl _ _⟩
        case round =>
          obtain ⟨j, vj, rfl, hjn, rfl, hoj, hbj⟩ := hrel
          have HBw := Lib.hid (hbi.out.trans (hbj.out.mono hbi.out.size))
          have d0 := (HX0.out.bel HBw.out).cell 0
          have d1 := (HX0.out.bel HBw.out).cell 1
          by_cases hjt : j < n
          · have hst2 := tblR_succ n es q col d i j
            by_cases hjq : j = q
            · have t2 : ((j : Int) == (q : Int)) = true := by simp; omega
              rw [if_pos hjq] at hst2
              have HSt2 := Lib.hid hst2
              clear hst2 hjq
              go_wp2
              go_roundw
              case rel => exact ⟨j + 1, _, rfl, by omega, by go_num, by rw [HSt2.out]; exact hoj.out, hbj.out⟩
              case measure => simp [intOf]; omega
            · have t2 : ((j : Int) == (q : Int)) = false := by simp; omega
              rw [if_neg hjq] at hst2
              have hol := tblR_len n es q col d i j
              by_cases hjc : (j : Int) = col
              · have t3 : ((j : Int) == col) = true := by simpa using hjc
                rw [if_pos hjc] at hst2
                obtain ⟨ad2, z, hA2, hadb2, hzz, hcz⟩ := HC.out i (by rw [HDl.out]; exact hit)
                subst hA2
                have hzg : d.getD i 0 = z := by rw [List.getD_eq_getElem?_getD, hzz.out]; rfl
                rw [hzg] at hst2
                have q2 : wr.cell? (ad2.add i) = some (.int .i64 z) := (HBw.out.cell (by rw [block_of_add]; exact hadb2)).trans hcz
                have hid : i < d.length := by rw [HDl.out]; exact hit
                have HSt2 := Lib.hid hst2
                have hsz := hbj.out.size
                have h1 := Lib.hid (RV.ones wr (.int .i64 z) 3)
                have ho1 := Lib.hid (hoj.out.below (below_alloc wr (.cells #[.int .i64 z] 3)))
                clear hst2 hjq hzg hcz hoj hjc
                generalize tblR n es q col d i j = os at *
                go_wp2_with (at_builtin; refine wpList_appendV _ rfl _ _ _ rfl 3 i0 _ 8 Tryz.underlying25 hi hz0 hz1 hz2 rfl wi.heap.size _ _ rfl ho1.out _ _ rfl h1.out (one_ones rfl) (by simp; omega) (by simp; omega) (by simp; omega) ?_; intro v1 w1 hown1 hg1 hat1)
                have HO := Lib.hid hown1
                clear hown1
                go_wp2
                go_roundw
                case rel => exact ⟨j + 1, _, rfl, by omega, by go_num, by rw [HSt2.out]; show OI _ _ _ _; simpa [OI] using HO.out, below_own (hbj.out.trans ((below_alloc wr _).mono hbj.out.size)) (by simp; omega) ho1.out hg1⟩
                case measure => simp [intOf]; omega
              · have t3 : ((j : Int) == col) = false := by simpa using hjc
                rw [if_neg hjc] at hst2
                by_cases hji : j = i
                · have t4 : ((j : Int) == (i : Int)) = true := by simp; omega
                  have hee : entE n es i j = valK es i n := by unfold entE; rw [if_pos hji.symm]
                  rw [hee] at hst2
                  have HSt2 := Lib.hid hst2
                  have HV := Lib.hid (rVal_any _ n i es wr (HG0.out.below HBw.out) HE.out hn)
                  clear hst2 hjq hjc hji hee
                  generalize valK es i n = z at *
                  go_wp2_with fail
                  refine HV.out.mono ?_
                  rintro e w5 ⟨rfl, hb5⟩
                  have hsz := hbj.out.size
                  have hsz5 := hb5.size
                  have h1 := Lib.hid (RV.ones w5 (.int .i64 z) 3)
                  have ho1 := Lib.hid ((OI.below hoj.out hb5).below (below_alloc w5 (.cells #[.int .i64 z] 3)))
                  have HB5 := Lib.hid (hbj.out.trans (hb5.mono hsz))
                  clear hoj d0 d1 hb5
                  generalize tblR n es q col d i j = os at *
                  go_wp2_with (at_builtin; refine wpList_appendV _ rfl _ _ _ rfl 3 i0 _ 8 Tryz.underlying25 hi hz0 hz1 hz2 rfl wi.heap.size _ _ rfl ho1.out _ _ rfl h1.out (one_ones rfl) (by simp; omega) (by simp; omega) (by simp; omega) ?_; intro v1 w1 hown1 hg1 hat1)
                  have HO := Lib.hid hown1
                  clear hown1
                  go_wp2
                  go_roundw
                  case rel => exact ⟨j + 1, _, rfl, by omega, by go_num, by rw [HSt2.out]; show OI _ _ _ _; simpa [OI] using HO.out, below_own (HB5.out.trans ((below_alloc w5 _).mono HB5.out.size)) (by simp; omega) ho1.out hg1⟩
                  case measure => simp [intOf]; omega
                · have t4 : ((j : Int) == (i : Int)) = false := by simp; omega
                  have hij : i ≠ j := fun e => hji e.symm
                  have hee : entE n es i j = - wgt es i j := by unfold entE; rw [if_neg hij]
                  rw [hee] at hst2
                  have HSt2 := Lib.hid hst2
                  have hbt := between_any _ (n : Int) es (i : Int) (j : Int) wr (HG0.out.below HBw.out)
                  rw [btw_wgt HE.out hij] at hbt
                  have HV := Lib.hid hbt
                  have hw := wgt_le HE.out hij
                  clear hst2 hjq hjc hji hee hij hbt
                  generalize wgt es i j = z at *
                  go_wp2_with fail
                  refine HV.out.mono ?_
                  rintro e w5 ⟨rfl, hb5⟩
                  have hsz := hbj.out.size
                  have hsz5 := hb5.size
                  have h1 := Lib.hid (RV.ones w5 (.int .i64 (-z)) 3)
                  have ho1 := Lib.hid ((OI.below hoj.out hb5).below (below_alloc w5 (.cells #[.int .i64 (-z)] 3)))
                  have HB5 := Lib.hid (hbj.out.trans (hb5.mono hsz))
                  clear hoj d0 d1 hb5
                  generalize tblR n es q col d i j = os at *
                  go_wp2_with (at_builtin; refine wpList_appendV _ rfl _ _ _ rfl 3 i0 _ 8 Tryz.underlying25 hi hz0 hz1 hz2 rfl wi.heap.size _ _ rfl ho1.out _ _ rfl h1.out (one_ones rfl) (by simp; omega) (by simp; omega) (by simp; omega) ?_; intro v1 w1 hown1 hg1 hat1)
                  have HO := Lib.hid hown1
                  clear hown1
                  go_wp2
                  go_roundw
                  case rel => exact ⟨j + 1, _, rfl, by omega, by go_num, by rw [HSt2.out]; show OI _ _ _ _; simpa [OI] using HO.out, below_own (HB5.out.trans ((below_alloc w5 _).mono HB5.out.size)) (by simp; omega) ho1.out hg1⟩
                  case measure => simp [intOf]; omega
          · obtain rfl : j = n := by omega
            have hol : OL W0.heap.size wr vo (tblL j es q col d i) := OL.below ho.out hbj.out
            have hor : OI wr W0.heap.size vj (tblR j es q col d i j) := OV.mono hoj.out hbi.out.size
            obtain ⟨A4, c4, hv4, -⟩ := hor.ri.open_
            subst hv4
            obtain ⟨us, hul, hov, hrv, hfin⟩ := OL.snoc hol hor
            have HOv := Lib.hid hov
            have HRv := Lib.hid hrv
            have HFin := Lib.hid hfin
            have hus : us.length ≤ i := by rw [hul]; exact tblL_len ..
            have hszw := HBw.out.size
            clear hul hov hrv hfin hol hor hoj ho d1
            go_wp2_with (at_builtin; refine wpList_appendV _ rfl _ _ _ rfl 25 j0 _ 24 Tryz.underlying41 hj hj0 hj1 hj2 rfl W0.heap.size _ _ rfl HOv.out _ _ rfl HRv.out (one_ones rfl) (by simp; omega) (by simp; omega) (by simp; omega) ?_; intro v1 w1 hown1 hg1 hat1)
            obtain ⟨hf1, hf2⟩ := HFin.out v1 w1 hown1 hg1
            have HF1 := Lib.hid hf1
            have HF2 := Lib.hid (hf2 W0.heap.size W0 HBw.out (Nat.le_refl _) hszw hszw)
            clear hown1 hg1 hat1 hf1 hf2
            go_wp2
            go_roundw
            case rel => exact ⟨i + 1, _, rfl, by omega, by go_num, by rw [HSt.out]; exact HF1.out, HF2.out⟩
            case measure => simp [intOf]; omega
    · obtain rfl : i = n := by omega
      go_wp2
      go_ret
      exact ⟨_, rfl, OL.mono ho.out (by have := HZ0.out; omega), HB0.out.trans (hbi.out.mono HB0.out.size)⟩
end Go.Proofs.YtefggpdobjboeaaGreat
