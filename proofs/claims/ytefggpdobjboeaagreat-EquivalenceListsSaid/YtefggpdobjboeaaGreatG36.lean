/- Lists of decimal digits, the last digit first, and what they are worth. No program in sight.
   Contracts of the references' cut, digit, digits, order of decimal digits.
   Contracts of the references' order, added and taken.
   Contracts of the references' added and taken of decimal digits. -/
import Derived.Test.YtefggpdobjboeaaGreatG23
namespace Go.Proofs.YtefggpdobjboeaaGreat
open Go.RowKit Go.Shelf

def p10 : Nat → Int
  | 0 => 1
  | k + 1 => 10 * p10 k
theorem p10_pos (k : Nat) : 1 ≤ p10 k := by
  induction k with
  | zero => simp [p10]
  | succ k ih => rw [p10]; omega
theorem p10_add (a b : Nat) : p10 (a + b) = p10 a * p10 b := by
  induction b with
  | zero => simp [p10]
  | succ b ih => rw [← Nat.add_assoc, p10, p10, ih]; grind
theorem p10_mono {a b : Nat} (h : a ≤ b) : p10 a ≤ p10 b := by
  induction b with
  | zero => rw [show a = 0 by omega]; exact Int.le_refl _
  | succ b ih =>
    by_cases e : a = b + 1
    · rw [e]; exact Int.le_refl _
    · have := ih (by omega)
      have := p10_pos b
      rw [p10]; omega
def dval : List Int → Int
  | [] => 0
  | d :: r => d + 10 * dval r
def Dig (l : List Int) : Prop := ∀ k, 0 ≤ l.getD k 0 ∧ l.getD k 0 ≤ 9
def Can (l : List Int) : Prop := l = [] ∨ l.getD (l.length - 1) 0 ≠ 0
theorem Dig.tail {d : Int} {r : List Int} (h : Dig (d :: r)) : (0 ≤ d ∧ d ≤ 9) ∧ Dig r := ⟨by simpa using h 0, fun k => by simpa using h (k + 1)⟩
theorem dig_nil : Dig [] := fun k => by simp
theorem Dig.snoc {l : List Int} {d : Int} (h : Dig l) (h0 : 0 ≤ d) (h9 : d ≤ 9) : Dig (l ++ [d]) := fun k => by
  rcases Nat.lt_trichotomy k l.length with c | c | c
  · rw [List.getD_eq_getElem?_getD, List.getElem?_append_left c, ← List.getD_eq_getElem?_getD]; exact h k
  · rw [List.getD_eq_getElem?_getD, List.getElem?_append_right (by omega), c]; simp; omega
  · rw [List.getD_eq_getElem?_getD, List.getElem?_append_right (by omega), List.getElem?_eq_none (by simp; omega)]; simp
theorem Dig.take {l : List Int} (h : Dig l) (n : Nat) : Dig (l.take n) := fun k => by
  by_cases c : k < n
  · rw [List.getD_eq_getElem?_getD, List.getElem?_take_of_lt c, ← List.getD_eq_getElem?_getD]; exact h k
  · rw [List.getD_eq_getElem?_getD, List.getElem?_eq_none (by simp; omega)]; simp
theorem Dig.drop {l : List Int} (h : Dig l) (n : Nat) : Dig (l.drop n) := fun k => by
  rw [List.getD_eq_getElem?_getD, List.getElem?_drop, ← List.getD_eq_getElem?_getD]; exact h _
theorem Dig.set {l : List Int} (h : Dig l) (j : Nat) {d : Int} (h0 : 0 ≤ d) (h9 : d ≤ 9) : Dig (l.set j d) := fun k => by
  by_cases c : j = k
  · by_cases c2 : k < l.length
    · rw [c, List.getD_eq_getElem?_getD, List.getElem?_set_self c2]; simp; omega
    · rw [List.getD_eq_getElem?_getD, List.getElem?_eq_none (by simp; omega)]; simp
  · rw [List.getD_eq_getElem?_getD, List.getElem?_set_ne c, ← List.getD_eq_getElem?_getD]; exact h k
theorem dval_bd {l : List Int} (h : Dig l) : 0 ≤ dval l ∧ dval l < p10 l.length := by
  induction l with
  | nil => simp [dval, p10]
  | cons d r ih =>
    obtain ⟨h1, h2⟩ := h.tail
    have := ih h2
    simp only [dval, List.length_cons, p10]
    omega
theorem dval_append (a b : List Int) : dval (a ++ b) = dval a + p10 a.length * dval b := by
  induction a with
  | nil => simp [dval, p10]
  | cons d r ih => simp only [List.cons_append, dval, ih, List.length_cons, p10]; grind
theorem dval_snoc (l : List Int) (d : Int) : dval (l ++ [d]) = dval l + p10 l.length * d := by rw [dval_append]; simp [dval]
theorem dval_split (l : List Int) {k : Nat} (hk : k ≤ l.length) : dval l = dval (l.take k) + p10 k * dval (l.drop k) := by
  have := dval_append (l.take k) (l.drop k)
  rw [List.take_append_drop, List.length_take, Nat.min_eq_left hk] at this
  exact this
theorem dval_take_succ (l : List Int) (k : Nat) : dval (l.take (k + 1)) = dval (l.take k) + p10 k * l.getD k 0 := by
  by_cases c : k < l.length
  · rw [List.take_add_one, List.getElem?_eq_getElem c, List.getD_eq_getElem?_getD, List.getElem?_eq_getElem c]
    show dval (l.take k ++ [l[k]]) = _
    rw [dval_snoc, List.length_take, Nat.min_eq_left (by omega)]; rfl
  · rw [List.take_of_length_le (by omega), List.take_of_length_le (by omega), List.getD_eq_getElem?_getD, List.getElem?_eq_none (by omega)]; simp
theorem dval_set {l : List Int} {j : Nat} (hj : j < l.length) (x : Int) : dval (l.set j x) = dval l + p10 j * (x - l.getD j 0) := by
  induction l generalizing j with
  | nil => simp at hj
  | cons d r ih =>
    cases j with
    | zero => simp [dval, p10]; omega
    | succ j =>
      have h1 := ih (j := j) (by simpa using hj)
      have h2 : (d :: r).getD (j + 1) 0 = r.getD j 0 := by simp
      rw [List.set_cons_succ, dval, dval, h1, p10, h2]
      grind
theorem dval_zeros (n : Nat) : dval (List.replicate n 0) = 0 := by
  induction n with
  | zero => rfl
  | succ n ih => rw [List.replicate_succ, dval, ih]; rfl
theorem can_ge {l : List Int} (h : Dig l) (hc : Can l) (hl : l ≠ []) : p10 (l.length - 1) ≤ dval l := by
  have hlen : 0 < l.length := List.length_pos_iff.2 hl
  have h1 := dval_split l (k := l.length - 1) (by omega)
  have h2 := (dval_bd (h.take (l.length - 1))).1
  have h3 : l.drop (l.length - 1) = [l.getD (l.length - 1) 0] := by
    rw [List.drop_eq_getElem_cons (by omega), List.drop_eq_nil_of_le (by omega), List.getD_eq_getElem?_getD, List.getElem?_eq_getElem (by omega)]; rfl
  have h4 := h (l.length - 1)
  have h5 : l.getD (l.length - 1) 0 ≠ 0 := by
    rcases hc with hc | hc
    · exact absurd hc hl
    · exact hc
  rw [h3] at h1
  simp only [dval] at h1
  generalize l.getD (l.length - 1) 0 = z at *
  have h6 := Int.mul_le_mul_of_nonneg_left (show (1 : Int) ≤ z + 10 * 0 by omega) (show 0 ≤ p10 (l.length - 1) by have := p10_pos (l.length - 1); omega)
  omega
theorem can_len {l : List Int} (h : Dig l) (hc : Can l) {k : Nat} (hk : dval l < p10 k) : l.length ≤ k := by
  by_cases e : l = []
  · rw [e]; simp
  · have h1 := can_ge h hc e
    apply Classical.byContradiction
    intro hn
    have := p10_mono (a := k) (b := l.length - 1) (by omega)
    omega
theorem can_nil {l : List Int} (h : Dig l) (hc : Can l) (h0 : dval l = 0) : l = [] := by
  have := can_len h hc (k := 0) (by rw [h0]; decide)
  exact List.eq_nil_of_length_eq_zero (by omega)
theorem can_of_ge {l : List Int} (h : Dig l) (hl : l ≠ []) (hv : p10 (l.length - 1) ≤ dval l) : Can l := by
  refine .inr fun h0 => ?_
  have hlen : 0 < l.length := List.length_pos_iff.2 hl
  have h1 := dval_take_succ l (l.length - 1)
  rw [show l.length - 1 + 1 = l.length by omega, List.take_of_length_le (Nat.le_refl _), h0] at h1
  have h2 := (dval_bd (h.take (l.length - 1))).2
  rw [List.length_take, Nat.min_eq_left (by omega)] at h2
  simp at h1
  omega
/-- What cut leaves: zeros at the end left out. -/
theorem cut_ok {l : List Int} (h : Dig l) {n : Nat} (hn : n ≤ l.length) (hz : ∀ i, n ≤ i → l.getD i 0 = 0) (hl : n = 0 ∨ l.getD (n - 1) 0 ≠ 0) : Dig (l.take n) ∧ Can (l.take n) ∧ dval (l.take n) = dval l ∧ (l.take n).length = n := by
  have hlen : (l.take n).length = n := by rw [List.length_take, Nat.min_eq_left hn]
  refine ⟨h.take n, ?_, ?_, hlen⟩
  · rcases hl with rfl | hl
    · exact .inl (by simp)
    · by_cases c : n = 0
      · exact .inl (by rw [c]; simp)
      · refine .inr ?_
        rw [hlen, List.getD_eq_getElem?_getD, List.getElem?_take_of_lt (by omega), ← List.getD_eq_getElem?_getD]; exact hl
  · have h1 := dval_split l hn
    have h2 : dval (l.drop n) = 0 := by
      have e : l.drop n = List.replicate (l.length - n) 0 := by
        refine List.eq_replicate_iff.2 ⟨by simp, fun b hb => ?_⟩
        obtain ⟨k, hk, rfl⟩ := List.mem_iff_getElem.1 hb
        have h3 := hz (n + k) (by omega)
        simp only [List.length_drop] at hk
        rw [List.getD_eq_getElem?_getD, List.getElem?_eq_getElem (by omega)] at h3
        rw [List.getElem_drop]; exact h3
      rw [e, dval_zeros]
    rw [h2, Int.mul_zero] at h1
    omega
theorem cut_same {l : List Int} (hc : Can l) {n : Nat} (hn : n ≤ l.length) (hz : ∀ i, n ≤ i → l.getD i 0 = 0) : n = l.length := by
  rcases hc with rfl | hc
  · simp at hn ⊢; exact hn
  · apply Classical.byContradiction
    intro h
    exact hc (hz _ (by omega))
theorem ord_lt {a b : List Int} (ha : Dig a) (hb : Dig b) {i : Nat} (hl : a.length = b.length) (hi : i < a.length) (hd : a.drop (i + 1) = b.drop (i + 1)) (h : a.getD i 0 < b.getD i 0) : dval a < dval b := by
  have h1 := dval_split a (k := i + 1) (by omega)
  have h2 := dval_split b (k := i + 1) (by omega)
  rw [dval_take_succ] at h1 h2
  rw [← hd] at h2
  have h3 := dval_bd (ha.take i)
  have h4 := dval_bd (hb.take i)
  rw [List.length_take, Nat.min_eq_left (by omega)] at h3 h4
  have h5 := Int.mul_le_mul_of_nonneg_left (show a.getD i 0 + 1 ≤ b.getD i 0 by omega) (show 0 ≤ p10 i by have := p10_pos i; omega)
  rw [Int.mul_add] at h5
  omega
theorem len_lt {a b : List Int} (ha : Dig a) (hb : Dig b) (hc : Can b) (h : a.length < b.length) : dval a < dval b := by
  have h1 := (dval_bd ha).2
  have h2 := can_ge hb hc (by intro e; rw [e] at h; simp at h)
  have h3 := p10_mono (a := a.length) (b := b.length - 1) (by omega)
  omega
/-- Text of digits. -/
def chrs (l : List Int) : List UInt8 := l.reverse.map fun d => UInt8.ofNat (48 + d).toNat
def textL (l : List Int) (m : Bool) : List UInt8 := if l = [] then [48] else if m then 45 :: chrs l else chrs l
def sgZ (l : List Int) (m : Bool) : Int := if m then - dval l else dval l
/-- A value that is the text of a canonical integer. -/
def ZS (v : Value) (z : Int) : Prop := ∃ (l : List Int) (m : Bool), v = .string ⟨(textL l m).toArray⟩ ∧ Dig l ∧ Can l ∧ (l = [] → m = false) ∧ z = sgZ l m
def B15 (z : Int) : Prop := -1000000000000000 < z ∧ z < 1000000000000000
theorem p15 : p10 15 = 1000000000000000 := by decide
theorem b15_len {l : List Int} {m : Bool} (h : Dig l) (hc : Can l) (hb : B15 (sgZ l m)) : l.length ≤ 15 := by
  refine can_len h hc ?_
  have := dval_bd h
  rw [p15]
  unfold B15 sgZ at hb
  cases m <;> simp at hb <;> omega
/-- The digits in a text, as they are read. -/
def digR (bs : List UInt8) : List Int := (bs.reverse.filter fun b => b != 45).map fun b => (b.toNat : Int) - 48
theorem digR_cons (b : UInt8) (bs : List UInt8) : digR (b :: bs) = if b = 45 then digR bs else digR bs ++ [(b.toNat : Int) - 48] := by
  unfold digR
  rw [List.reverse_cons, List.filter_append]
  by_cases c : b = 45
  · rw [if_pos c]; simp [c]
  · rw [if_neg c]; simp [c]
theorem chr_nat {d : Int} (h0 : 0 ≤ d) (h9 : d ≤ 9) : (UInt8.ofNat (48 + d).toNat).toNat = (48 + d).toNat := by
  rw [UInt8.toNat_ofNat']; exact Nat.mod_eq_of_lt (by omega)
theorem chr_ne {d : Int} (h0 : 0 ≤ d) (h9 : d ≤ 9) : UInt8.ofNat (48 + d).toNat ≠ 45 := fun e => by
  have := congrArg UInt8.toNat e
  rw [chr_nat h0 h9] at this
  have h45 : (45 : UInt8).toNat = 45 := rfl
  omega
theorem Dig.mem {l : List Int} (h : Dig l) {d : Int} (hd : d ∈ l) : 0 ≤ d ∧ d ≤ 9 := by
  obtain ⟨k, hk, rfl⟩ := List.mem_iff_getElem.1 hd
  have := h k
  rw [List.getD_eq_getElem?_getD, List.getElem?_eq_getElem hk] at this
  exact this
theorem digR_chrs {l : List Int} (h : Dig l) : digR (chrs l) = l := by
  unfold digR chrs
  rw [← List.map_reverse, List.reverse_reverse, List.filter_eq_self.2 fun b hb => by
    obtain ⟨d, hd, rfl⟩ := List.mem_map.1 hb
    have := h.mem hd
    simpa using chr_ne this.1 this.2, List.map_map]
  conv => rhs; rw [← List.map_id l]
  refine List.map_congr_left fun d hd => ?_
  have := h.mem hd
  show ((UInt8.ofNat (48 + d).toNat).toNat : Int) - 48 = d
  rw [chr_nat this.1 this.2]; omega
theorem digR_text {l : List Int} (h : Dig l) (m : Bool) : digR (textL l m) = if l = [] then [0] else l := by
  unfold textL
  by_cases e : l = []
  · rw [if_pos e, if_pos e]; decide
  · rw [if_neg e, if_neg e]
    cases m
    · exact digR_chrs h
    · rw [if_pos rfl, digR_cons, if_pos rfl]; exact digR_chrs h
theorem text_len (l : List Int) (m : Bool) : (textL l m).length ≤ l.length + 1 := by
  unfold textL
  split
  · simp
  · split
    · simp [chrs]
    · simp [chrs]
theorem text_pos (l : List Int) (m : Bool) : 0 < (textL l m).length := by
  unfold textL
  split
  · simp
  · rename_i h
    have := List.length_pos_iff.2 h
    split
    · simp
    · simpa [chrs] using this
theorem text_bytes {l : List Int} (h : Dig l) (m : Bool) : ∀ b ∈ textL l m, b = 45 ∨ (48 ≤ b.toNat ∧ b.toNat ≤ 57) := by
  have hc : ∀ b ∈ chrs l, b = 45 ∨ (48 ≤ b.toNat ∧ b.toNat ≤ 57) := fun b hb => by
    unfold chrs at hb
    obtain ⟨d, hd, rfl⟩ := List.mem_map.1 hb
    have := h.mem (List.mem_reverse.1 hd)
    rw [chr_nat this.1 this.2]
    exact .inr (by omega)
  intro b hb
  unfold textL at hb
  split at hb
  · simp only [List.mem_singleton] at hb; subst hb; exact .inr (by decide)
  · split at hb
    · rcases List.mem_cons.1 hb with hb | hb
      · exact .inl hb
      · exact hc b hb
    · exact hc b hb
/-- Whether a text begins with a minus. -/
theorem text_minus {l : List Int} (h : Dig l) (m : Bool) (hm : l = [] → m = false) : ((textL l m).getD 0 0 == 45) = m := by
  unfold textL
  by_cases e : l = []
  · rw [if_pos e, hm e]; decide
  · rw [if_neg e]
    cases m
    · rw [if_neg (by simp)]
      have hp := List.length_pos_iff.2 e
      have hq : 0 < (chrs l).length := by simpa [chrs] using hp
      have hb : (chrs l).getD 0 0 ∈ chrs l := by
        rw [List.getD_eq_getElem?_getD, List.getElem?_eq_getElem hq]; exact List.getElem_mem hq
      have : (chrs l).getD 0 0 ≠ 45 := by
        generalize (chrs l).getD 0 0 = b at *
        unfold chrs at hb
        obtain ⟨d, hd, rfl⟩ := List.mem_map.1 hb
        have := h.mem (List.mem_reverse.1 hd)
        exact chr_ne this.1 this.2
      simpa using this
    · rw [if_pos rfl]; rfl
/-- Whether a text is that of 0. -/
theorem text_zero {l : List Int} (h : Dig l) (hc : Can l) (m : Bool) (hm : l = [] → m = false) : (textL l m = [48]) ↔ sgZ l m = 0 := by
  have h0 : sgZ l m = 0 ↔ l = [] := by
    constructor
    · intro e
      refine can_nil h hc ?_
      unfold sgZ at e
      cases m <;> simp at e <;> omega
    · intro e; rw [e, hm e]; rfl
  rw [h0]
  constructor
  · intro e
    apply Classical.byContradiction
    intro hl
    have h2 := digR_text h m
    rw [e, if_neg hl] at h2
    have h3 : l = [0] := by rw [← h2]; decide
    rcases hc with hc | hc
    · exact hl hc
    · rw [h3] at hc; simp at hc
  · intro e; unfold textL; rw [if_pos e]
end Go.Proofs.YtefggpdobjboeaaGreat

namespace Go.Proofs.YtefggpdobjboeaaGreat
open Go.RowKit Go.Shelf

set_option maxRecDepth 100000 in
set_option maxHeartbeats 4000000 in
theorem dCut_any (va : Value) (l : List Int) (w : World) (ha : RI w va l) (hlen : l.length ≤ 1000) :
    Calls Tryz.prog 188 #[va] w fun e w' => ∃ v : Value, e = .returned v ∧ w = w' ∧ ∃ n : Nat, RI w v (l.take n) ∧ n ≤ l.length ∧ (∀ i, n ≤ i → l.getD i 0 = 0) ∧ (n = 0 ∨ l.getD (n - 1) 0 ≠ 0) := by
  obtain ⟨A, c, rfl, hlc, hb, hcell⟩ := ha.open_
  have HC := Lib.hid hcell
  have HTk : Hid (∀ n, n ≤ l.length → RI w (.slice A n c) (l.take n)) := fun n hn => by
    have e : (l.take n).length = n := by rw [List.length_take, Nat.min_eq_left hn]
    have := RI.mk_ (w := w) (A := A) (c := c) (zs := l.take n) (by omega) (by omega) fun k z hk => by
      have hk1 : k < n := by have := (List.getElem?_eq_some_iff.1 hk).1; omega
      obtain ⟨ad, y, hA, hadb, hy, hcl⟩ := HC.out k (by omega)
      refine ⟨ad, hA, hadb, ?_⟩
      rw [List.getElem?_take_of_lt hk1, hy.out] at hk
      cases hk
      exact hcl
    rwa [e] at this
  clear hcell ha
  go_enter Tryz.func188, Tryz.ntmps188
  go_wp2_with fail
  go_loop [3] (fun i => ∃ k : Nat, k ≤ l.length ∧ i = .int .i64 (k : Int) ∧ Hid (∀ i, k ≤ i → l.getD i 0 = 0)) (fun i => (intOf i).toNat)
  case atStart => exact ⟨l.length, Nat.le_refl _, rfl, fun i hi => by rw [List.getD_eq_getElem?_getD, List.getElem?_eq_none hi]; rfl⟩
  case round =>
    obtain ⟨k, hk, rfl, hA⟩ := hrel
    by_cases hk0 : k = 0
    · subst hk0
      have HT := Lib.hid (HTk.out 0 (Nat.zero_le _))
      go_wp2
      go_ret
      exact ⟨_, rfl, rfl, 0, HT.out, Nat.zero_le _, hA.out, .inl rfl⟩
    · obtain ⟨j, rfl⟩ : ∃ j, k = j + 1 := ⟨k - 1, by omega⟩
      obtain ⟨ad, z, rfl, hadb, hz, hcl⟩ := HC.out j (by omega)
      have hzz : l.getD j 0 = z := by rw [List.getD_eq_getElem?_getD, hz.out]; rfl
      have HZ := Lib.hid hzz
      have HT := Lib.hid (HTk.out (j + 1) hk)
      have hjj : ((j + 1 : Nat) : Int) - 1 = (j : Int) := by omega
      clear HC HTk hzz
      by_cases hz0 : z = 0
      · have HA2 : Hid (∀ i, j ≤ i → l.getD i 0 = 0) := fun i hi => by
          by_cases e : i = j
          · rw [e, HZ.out, hz0]
          · exact hA.out i (by omega)
        subst hz0
        go_wp2
        go_round
        case rel => exact ⟨j, by omega, by go_num, HA2.out⟩
        case measure => simp [intOf]
      · go_wp2
        go_ret
        exact ⟨_, rfl, rfl, j + 1, HT.out, by omega, hA.out, .inr (by have h := HZ.out; rw [List.getD_eq_getElem?_getD] at h; simpa [h] using hz0)⟩
set_option maxRecDepth 100000 in
set_option maxHeartbeats 4000000 in
theorem dDigit_any (va : Value) (l : List Int) (k : Nat) (w : World) (ha : RI w va l) :
    Calls Tryz.prog 189 #[va, .int .i64 (k : Int)] w fun e w' => e = .returned (.int .i64 (l.getD k 0)) ∧ w = w' := by
  obtain ⟨A, c, rfl, hlc, hb, hcell⟩ := ha.open_
  have HC := Lib.hid hcell
  clear hcell ha
  by_cases hk : k < l.length
  · obtain ⟨ad, z, rfl, hadb, hz, hcl⟩ := HC.out k hk
    have HZ : Hid (z = l.getD k 0) := by show _ = _; rw [List.getD_eq_getElem?_getD, hz.out]; rfl
    go_enter Tryz.func189, Tryz.ntmps189
    go_wp2
    go_ret
    exact ⟨ret_i HZ.out, rfl⟩
  · have HZ : Hid (0 = l.getD k 0) := by show _ = _; rw [List.getD_eq_getElem?_getD, List.getElem?_eq_none (by omega)]; rfl
    go_enter Tryz.func189, Tryz.ntmps189
    go_wp2
    go_ret
    exact ⟨ret_i HZ.out, rfl⟩
/-- The bytes of a text, as the walk reads them. -/
theorem str_at (bs : List UInt8) (k : Nat) (h : k < bs.length) : ∃ b, bs[k]? = some b ∧ ∀ (hi : 0 ≤ (k : Int) ∧ (k : Int) < (ByteArray.mk bs.toArray).size), ((ByteArray.mk bs.toArray)[(k : Int).toNat]'(by omega)) = b :=
  ⟨bs[k], List.getElem?_eq_getElem h, fun _ => by simp [ByteArray.getElem_eq_getElem_data]⟩
theorem digR_drop {bs : List UInt8} {k : Nat} {b : UInt8} (h : bs[k]? = some b) : digR (bs.drop k) = if b = 45 then digR (bs.drop (k + 1)) else digR (bs.drop (k + 1)) ++ [(b.toNat : Int) - 48] := by
  obtain ⟨hk, rfl⟩ := List.getElem?_eq_some_iff.1 h
  rw [List.drop_eq_getElem_cons hk, digR_cons]
theorem digR_len (bs : List UInt8) : (digR bs).length ≤ bs.length := by
  unfold digR
  rw [List.length_map]
  exact Nat.le_trans (List.length_filter_le _ _) (by simp)
theorem OI.snoc {w W : World} {o : Value} {out : List Int} (h : OI W w.heap.size o out) (z : Int) (hb : Below w.heap.size w W) :
    OV (W.alloc (.cells #[.int .i64 z] 3)) w.heap.size 3 o (out.map (Value.int .i64)) ∧ RV (W.alloc (.cells #[.int .i64 z] 3)) (.slice (some ⟨W.heap.size, 0, none⟩) 1 1) [.int .i64 z] ∧
      ∀ v1 w3, OV w3 w.heap.size 3 v1 (out.map (Value.int .i64) ++ [.int .i64 z]) → (W.alloc (.cells #[.int .i64 z] 3)).grownBy w3 o.ownBlock → OI w3 w.heap.size v1 (out ++ [z]) ∧ Below w.heap.size w w3 := by
  have hba := below_alloc W (.cells #[.int .i64 z] 3)
  have hov := OV.below h hba
  refine ⟨hov, RV.ones W _ _, fun v1 w3 hown hg => ⟨?_, ?_⟩⟩
  · show OV _ _ _ _ _
    simpa using hown
  · exact below_own (hb.trans (hba.mono hb.size)) (by have := hb.size; have := hba.size; omega) hov hg
theorem len_append1 (out : List Int) (z : Int) : (out ++ [z]).length = out.length + 1 := by simp
set_option maxRecDepth 100000 in
set_option maxHeartbeats 4000000 in
theorem dDigits_any (l : List Int) (m : Bool) (w : World) (hd : Dig l) (hc : Can l) (hlen : l.length ≤ 100) :
    Calls Tryz.prog 168 #[.string ⟨(textL l m).toArray⟩] w fun e w' => ∃ v, e = .returned v ∧ RI w' v l ∧ Below w.heap.size w w' := by
  obtain ⟨i0, hi, hz0, hz1, hz2⟩ := info_parts int_info
  have hR := digR_text hd m
  have hby := text_bytes hd m
  have hbl := text_len l m
  obtain ⟨bs, hbs⟩ : ∃ bs, bs = textL l m := ⟨_, rfl⟩
  rw [← hbs] at hR hby hbl ⊢
  obtain ⟨S, hS⟩ : ∃ S, S = ByteArray.mk bs.toArray := ⟨_, rfl⟩
  have hsz : S.size = bs.length := by rw [hS]; simp [ByteArray.size]
  have HIx : Hid (∀ (j : Nat) (b : UInt8) (W : World), bs[j]? = some b → (Instr.index 96 (.string S) (.int .i64 (j : Int))).run Tryz.prog W = .ok (.int .u8 (b.toNat : Int)) W) := fun j b W h => by
    obtain ⟨hj, e⟩ := List.getElem?_eq_some_iff.1 h
    rw [run_index_string _ _ _ _ _ Tryz.underlying96, dif_pos (by omega)]
    subst hS
    simp [ByteArray.getElem_eq_getElem_data, e]
  rw [← hS]
  have HR := Lib.hid hR
  have HBy := Lib.hid hby
  have HD := Lib.hid hd
  have HCn := Lib.hid hc
  have hb100 : bs.length ≤ 101 := by omega
  clear hR hby hS hbs hd hc hbl hlen
  go_enter Tryz.func168, Tryz.ntmps168
  go_wp2_with fail
  go_loopw [3, 4] (fun o i wr => ∃ (k : Nat) (vo : Value), vo = o ∧ k ≤ bs.length ∧ i = .int .i64 ((k : Int) - 1) ∧ Hid (OI wr w.heap.size o (digR (bs.drop k))) ∧ Hid (Below w.heap.size w wr)) (fun _ i _ => (intOf i + 1).toNat)
  case atStart => exact ⟨bs.length, _, rfl, Nat.le_refl _, by first | rfl | rw [hsz], by rw [List.drop_of_length_le (Nat.le_refl _)]; exact OI.nil_ _ _, Below.refl _ _⟩
  case round =>
    obtain ⟨k, vo, rfl, hk, rfl, ho, hb⟩ := hrel
    by_cases hk0 : k = 0
    · subst hk0
      have hrn := ho.out.rv
      have HRI := Lib.hid (show RI wr vo (if l = [] then [0] else l) from by rw [← HR.out]; exact hrn)
      have hlen : (if l = [] then [0] else l).length ≤ 1000 := by
        rw [← HR.out]; have := digR_len bs; omega
      have HCu := Lib.hid (dCut_any vo _ wr HRI.out hlen)
      clear hrn hlen
      go_wp2_with fail
      refine HCu.out.mono ?_
      rintro e w2 ⟨v2, rfl, rfl, n, hr2, hn, hz, hl2⟩
      have HR2 : Hid (RI wr v2 l) := by
        by_cases e : l = []
        · subst e
          rw [if_pos rfl] at hr2 hn hz hl2
          have : n = 0 := by
            rcases hl2 with h | h
            · exact h
            · rw [show n - 1 = 0 by simp at hn; omega] at h; simp at h
          subst this
          show RI wr v2 []
          simpa using hr2
        · rw [if_neg e] at hr2 hn hz hl2
          have := cut_same HCn.out hn hz
          subst this
          rw [List.take_of_length_le (Nat.le_refl _)] at hr2
          exact hr2
      clear hr2 hn hz hl2
      go_wp2
      go_ret
      exact ⟨_, rfl, HR2.out, hb.out⟩
    · obtain ⟨j, rfl⟩ : ∃ j, k = j + 1 := ⟨k - 1, by omega⟩
      have hbj : bs[j]? = some bs[j] := List.getElem?_eq_getElem (by omega)
      have hmem := HBy.out bs[j] (List.getElem_mem _)
      generalize bs[j] = b at *
      have hix := fun W => HIx.out j b W hbj
      have hdr := digR_drop hbj
      have hdl := digR_len (bs.drop (j + 1))
      have hdl2 : (digR (bs.drop (j + 1))).length ≤ 101 := by rw [List.length_drop] at hdl; omega
      have hjj : (((j + 1 : Nat) : Int) - 1) = (j : Int) := by omega
      rw [hjj]
      clear hbj hdl
      by_cases e45 : b = 45
      · rw [if_pos e45] at hdr
        have hb45 : (b.toNat : Int) = 45 := by rw [e45]; rfl
        have HDr := Lib.hid hdr
        rw [hb45] at hix
        clear hdr hmem e45 hb45
        go_wp2
        go_roundw
        case rel => exact ⟨j, _, rfl, by omega, by go_num, by rw [HDr.out]; exact ho.out, hb.out⟩
        case measure => simp [intOf] <;> omega
      · rw [if_neg e45] at hdr
        have hne : (b.toNat : Int) ≠ 45 := fun h => e45 (UInt8.toNat_inj.1 (by have : (45 : UInt8).toNat = 45 := rfl; omega))
        have h48 : 48 ≤ (b.toNat : Int) ∧ (b.toNat : Int) ≤ 57 := by
          rcases hmem with h | h
          · exact absurd h e45
          · omega
        have HDr := Lib.hid hdr
        generalize (b.toNat : Int) = z at *
        have hw : IntKind.u8.wrap (z - 48) = z - 48 := by simp (disch := omega) only [IntWalk.u8_in]
        clear hdr hmem e45
        generalize digR (bs.drop (j + 1)) = out at *
        obtain ⟨hov, hrv, hfin⟩ := OI.snoc ho.out (z-48) hb.out
        have HOv := Lib.hid hov
        have HRv := Lib.hid hrv
        have HFin := Lib.hid hfin
        have hszB := hb.out.size
        clear hov hrv hfin
        go_wp2_with (at_builtin; refine wpList_appendV _ rfl _ _ _ rfl 3 i0 _ 8 Tryz.underlying25 hi hz0 hz1 hz2 rfl w.heap.size _ _ rfl HOv.out _ _ rfl HRv.out (one_ones rfl) (by simp; omega) (by simp; omega) (by simp; omega) ?_; intro v1 w3 hown hg hat; obtain ⟨hf1, hf2⟩ := HFin.out v1 w3 hown hg; have HF1 := Lib.hid hf1; have HF2 := Lib.hid hf2; clear hown hg hat hf1 hf2)
        go_wp2
        go_roundw
        case rel => exact ⟨j, _, rfl, by omega, by go_num, by rw [HDr.out]; exact HF1.out, HF2.out⟩
        case measure => simp [intOf] <;> omega
end Go.Proofs.YtefggpdobjboeaaGreat

namespace Go.Proofs.YtefggpdobjboeaaGreat
open Go.RowKit Go.Shelf

theorem sgn_lt {a b : Int} (h : a < b) : cmpI a b = -1 := by unfold cmpI; rw [if_pos h]
theorem sgn_gt {a b : Int} (h : b < a) : cmpI a b = 1 := by unfold cmpI; rw [if_neg (by omega), if_pos h]
theorem sgn_eq {a b : Int} (h : a = b) : cmpI a b = 0 := by unfold cmpI; rw [if_neg (by omega), if_neg (by omega)]
theorem drop_eq_at {a b : List Int} {j : Nat} {x : Int} (ha : a[j]? = some x) (hb : b[j]? = some x) (h : a.drop (j + 1) = b.drop (j + 1)) : a.drop j = b.drop j := by
  obtain ⟨h1, e1⟩ := List.getElem?_eq_some_iff.1 ha
  obtain ⟨h2, e2⟩ := List.getElem?_eq_some_iff.1 hb
  rw [List.drop_eq_getElem_cons h1, List.drop_eq_getElem_cons h2, e1, e2, h]
theorem getD_of {a : List Int} {j : Nat} {x : Int} (h : a[j]? = some x) : a.getD j 0 = x := by rw [List.getD_eq_getElem?_getD, h]; rfl
set_option maxRecDepth 100000 in
set_option maxHeartbeats 4000000 in
theorem dOrder_any (va vb : Value) (a b : List Int) (w : World) (ha : RI w va a) (hb : RI w vb b) (hda : Dig a) (hdb : Dig b) (hca : Can a) (hcb : Can b) :
    Calls Tryz.prog 170 #[va, vb] w fun e w' => e = .returned (.int .i64 (cmpI (dval a) (dval b))) ∧ Below w.heap.size w w' := by
  obtain ⟨A, c, rfl, hlc, hlb, hcell⟩ := ha.open_
  obtain ⟨A', c', rfl, hlc', hlb', hcell'⟩ := hb.open_
  by_cases hl1 : a.length < b.length
  · have hr := sgn_lt (len_lt hda hdb hcb hl1)
    have HR := Lib.hid hr
    clear hcell hcell' ha hb hda hdb hca hcb hr
    go_enter Tryz.func170, Tryz.ntmps170
    go_wp2
    go_ret
    exact ⟨ret_i HR.out.symm, Below.refl _ _⟩
  by_cases hl2 : b.length < a.length
  · have hr := sgn_gt (len_lt hdb hda hca hl2)
    have HR := Lib.hid hr
    clear hcell hcell' ha hb hda hdb hca hcb hr
    go_enter Tryz.func170, Tryz.ntmps170
    go_wp2
    go_ret
    exact ⟨ret_i HR.out.symm, Below.refl _ _⟩
  have HLen : Hid (a.length = b.length) := by show _ = _; omega
  have HA := Lib.hid hcell
  have HB := Lib.hid hcell'
  have HDa := Lib.hid hda
  have HDb := Lib.hid hdb
  rw [show b.length = a.length by omega]
  clear hcell hcell' ha hb hda hdb hca hcb hl1 hl2 hlb' hlc'
  go_enter Tryz.func170, Tryz.ntmps170
  go_wp2_with fail
  go_loopw [5] (fun i wr => ∃ k : Nat, k ≤ a.length ∧ i = .int .i64 ((k : Int) - 1) ∧ Hid (a.drop k = b.drop k) ∧ Hid (Below w.heap.size w wr)) (fun i _ => (intOf i + 1).toNat)
  case atStart => exact ⟨a.length, Nat.le_refl _, rfl, by show _ = _; rw [List.drop_of_length_le (Nat.le_refl _), List.drop_of_length_le (by have := HLen.out; omega)], Below.refl _ _⟩
  case round =>
    obtain ⟨k, hk, rfl, hE, hbw⟩ := hrel
    by_cases hk0 : k = 0
    · subst hk0
      have HR : Hid (cmpI (dval a) (dval b) = 0) := sgn_eq (by have := hE.out; simp only [List.drop_zero] at this; rw [this])
      go_wp2
      go_ret
      exact ⟨ret_i HR.out.symm, hbw.out⟩
    · obtain ⟨j, rfl⟩ : ∃ j, k = j + 1 := ⟨k - 1, by omega⟩
      obtain ⟨ad, z, rfl, hab, hz, hcl⟩ := HA.out j (by omega)
      obtain ⟨ad', z', rfl, hab', hz', hcl'⟩ := HB.out j (by have := HLen.out; omega)
      have hcw := (hbw.out.cell (by rw [block_of_add]; exact hab)).trans hcl
      have hcw' := (hbw.out.cell (by rw [block_of_add]; exact hab')).trans hcl'
      have hjj : (((j + 1 : Nat) : Int) - 1) = (j : Int) := by omega
      rw [hjj]
      clear HA HB hcl hcl' hjj
      by_cases c1 : z < z'
      · have HR : Hid (cmpI (dval a) (dval b) = -1) := sgn_lt (ord_lt HDa.out HDb.out HLen.out (by omega) hE.out (by rw [getD_of hz.out, getD_of hz'.out]; exact c1))
        go_wp2_with fail
        go_quiet (fail)
        go_wp2_with fail
        go_quiet (fail)
        go_wp2
        go_ret
        refine ⟨ret_i HR.out.symm, ?_⟩
        repeat (first | exact hbw.out | apply below_drewN | apply Below.drew)
      · by_cases c2 : z' < z
        · have HR : Hid (cmpI (dval a) (dval b) = 1) := sgn_gt (ord_lt HDb.out HDa.out HLen.out.symm (by have := HLen.out; omega) hE.out.symm (by rw [getD_of hz.out, getD_of hz'.out]; exact c2))
          go_wp2_with fail
          go_quiet (fail)
          go_wp2_with fail
          go_quiet (fail)
          go_wp2
          go_ret
          refine ⟨ret_i HR.out.symm, ?_⟩
          repeat (first | exact hbw.out | apply below_drewN | apply Below.drew)
        · obtain rfl : z' = z := by omega
          have HE2 : Hid (a.drop j = b.drop j) := drop_eq_at hz.out hz'.out hE.out
          go_wp2_with fail
          go_quiet (fail)
          go_wp2
          go_roundw
          case rel =>
            refine ⟨j, by omega, by go_num, HE2.out, ?_⟩
            show Below _ _ _
            repeat (first | exact hbw.out | apply below_drewN | apply Below.drew)
          case measure => simp [intOf] <;> omega
end Go.Proofs.YtefggpdobjboeaaGreat

namespace Go.Proofs.YtefggpdobjboeaaGreat
open Go.RowKit Go.Shelf

theorem getD_end (l : List Int) {k : Nat} (h : l.length ≤ k) : l.getD k 0 = 0 := by rw [List.getD_eq_getElem?_getD, List.getElem?_eq_none h]; rfl
theorem getD_snoc_last (l : List Int) (d : Int) : (l ++ [d]).getD l.length 0 = d := by rw [List.getD_eq_getElem?_getD, List.getElem?_append_right (Nat.le_refl _)]; simp
/-- A round of added. -/
theorem add_step {a b out : List Int} {i : Nat} {c : Int} (hl : out.length = i) (hd : Dig out) (hda : Dig a) (hdb : Dig b) (hc0 : 0 ≤ c) (hc1 : c ≤ 1) (hv : dval out + p10 i * c = dval (a.take i) + dval (b.take i)) :
    (out ++ [(c + (a.getD i 0 + b.getD i 0)) % 10]).length = i + 1 ∧ Dig (out ++ [(c + (a.getD i 0 + b.getD i 0)) % 10]) ∧ 0 ≤ (c + (a.getD i 0 + b.getD i 0)) / 10 ∧ (c + (a.getD i 0 + b.getD i 0)) / 10 ≤ 1 ∧
      dval (out ++ [(c + (a.getD i 0 + b.getD i 0)) % 10]) + p10 (i + 1) * ((c + (a.getD i 0 + b.getD i 0)) / 10) = dval (a.take (i + 1)) + dval (b.take (i + 1)) := by
  have h1 := hda i
  have h2 := hdb i
  rw [dval_snoc, dval_take_succ, dval_take_succ, hl, p10]
  generalize a.getD i 0 = x at *
  generalize b.getD i 0 = y at *
  refine ⟨by simp [hl], hd.snoc (by omega) (by omega), by omega, by omega, ?_⟩
  have e : c + (x + y) = 10 * ((c + (x + y)) / 10) + (c + (x + y)) % 10 := by omega
  generalize (c + (x + y)) / 10 = q at *
  generalize (c + (x + y)) % 10 = r at *
  have e2 : p10 i * (c + (x + y)) = p10 i * (10 * q + r) := by rw [e]
  grind
theorem add_done {a b out : List Int} {i : Nat} (hl : out.length = i) (hd : Dig out) (hda : Dig a) (hdb : Dig b) (hca : Can a) (hcb : Can b) (ha : a.length ≤ i) (hb : b.length ≤ i) (hv : dval out + p10 i * 0 = dval (a.take i) + dval (b.take i))
    (ht : i ≤ a.length ∨ i ≤ b.length ∨ out.getD (i - 1) 0 ≠ 0) : Can out ∧ dval out = dval a + dval b := by
  rw [List.take_of_length_le ha, List.take_of_length_le hb, Int.mul_zero, Int.add_zero] at hv
  refine ⟨?_, hv⟩
  by_cases e : out = []
  · exact .inl e
  have hn : i ≠ 0 := fun h => e (List.eq_nil_of_length_eq_zero (by omega))
  have b1 := dval_bd hda
  have b2 := dval_bd hdb
  rcases ht with h | h | h
  · have := can_ge hda hca (fun h0 => by rw [h0] at h; simp at h; omega)
    exact can_of_ge hd e (by rw [hl, show i - 1 = a.length - 1 by omega]; omega)
  · have := can_ge hdb hcb (fun h0 => by rw [h0] at h; simp at h; omega)
    exact can_of_ge hd e (by rw [hl, show i - 1 = b.length - 1 by omega]; omega)
  · exact .inr (by rw [hl]; exact h)
theorem rem_at {s : Int} (h : 0 ≤ s) : s.tmod 10 = s % 10 := Int.tmod_eq_emod_of_nonneg h
theorem quo_at {s : Int} (h : 0 ≤ s) : s.tdiv 10 = s / 10 := Int.tdiv_eq_ediv_of_nonneg h
set_option maxRecDepth 100000 in
set_option maxHeartbeats 8000000 in
theorem dAdded_any (va vb : Value) (a b : List Int) (w : World) (ha : RI w va a) (hb : RI w vb b) (hda : Dig a) (hdb : Dig b) (hca : Can a) (hcb : Can b) (hla : a.length ≤ 100) (hlb : b.length ≤ 100) :
    Calls Tryz.prog 169 #[va, vb] w fun e w' => ∃ v, e = .returned v ∧ Below w.heap.size w w' ∧ ∃ out, OI w' w.heap.size v out ∧ Dig out ∧ Can out ∧ dval out = dval a + dval b := by
  obtain ⟨i0, hi, hz0, hz1, hz2⟩ := info_parts int_info
  have HRa := Lib.hid ha
  have HRb := Lib.hid hb
  obtain ⟨A, c, rfl, -⟩ := ha.open_
  obtain ⟨A', c', rfl, -⟩ := hb.open_
  have HDa := Lib.hid hda
  have HDb := Lib.hid hdb
  have HDone : Hid (∀ (out : List Int) (i : Nat), out.length = i → Dig out → a.length ≤ i → b.length ≤ i → dval out + p10 i * 0 = dval (a.take i) + dval (b.take i) → (i ≤ a.length ∨ i ≤ b.length ∨ out.getD (i - 1) 0 ≠ 0) → Can out ∧ dval out = dval a + dval b) :=
    fun out i h1 h2 h3 h4 h5 h6 => add_done h1 h2 hda hdb hca hcb h3 h4 h5 h6
  clear ha hb hda hdb hca hcb
  go_enter Tryz.func169, Tryz.ntmps169
  go_wp2_with fail
  go_loopw [5, 6, 7] (fun o cc ii wr => ∃ (i : Nat) (c : Int) (out : List Int) (vo : Value), vo = o ∧ cc = .int .i64 c ∧ ii = .int .i64 (i : Int) ∧ 0 ≤ c ∧ c ≤ 1 ∧ i ≤ 101 ∧ Hid (OI wr w.heap.size o out) ∧ Hid (Below w.heap.size w wr) ∧ Hid (out.length = i) ∧ Hid (Dig out) ∧ Hid (dval out + p10 i * c = dval (a.take i) + dval (b.take i)) ∧ Hid (i ≤ a.length ∨ i ≤ b.length ∨ (c = 0 ∧ out.getD (i - 1) 0 ≠ 0))) (fun _ _ i _ => 101 - (intOf i).toNat)
  case atStart => exact ⟨0, 0, [], _, rfl, rfl, rfl, by omega, by omega, by omega, OI.nil_ _ _, Below.refl _ _, rfl, dig_nil, by simp [Hid, dval], .inl (Nat.zero_le _)⟩
  case round =>
    obtain ⟨i, cy, out, vo, rfl, rfl, rfl, hc0, hc1, hi101, ho, hbw, hl, hd, hv, ht⟩ := hrel
    by_cases hgo : i < a.length ∨ i < b.length ∨ 0 < cy
    · have hi100 : i + 1 ≤ 101 := by
        rcases ht.out with h | h | h
        · omega
        · omega
        · omega
      obtain ⟨s1, s2, s3, s4, s5⟩ := add_step hl.out hd.out HDa.out HDb.out hc0 hc1 hv.out
      have hax := HDa.out i
      have hbx := HDb.out i
      have HDg1 := Lib.hid (dDigit_any _ a i wr (RI.below HRa.out hbw.out))
      have HDg2 := Lib.hid (dDigit_any _ b i wr (RI.below HRb.out hbw.out))
      have htop : (i + 1 ≤ a.length ∨ i + 1 ≤ b.length ∨ ((cy + (a.getD i 0 + b.getD i 0)) / 10 = 0 ∧ (out ++ [(cy + (a.getD i 0 + b.getD i 0)) % 10]).getD (i + 1 - 1) 0 ≠ 0)) := by
        by_cases h1 : i < a.length
        · exact .inl (by omega)
        by_cases h2 : i < b.length
        · exact .inr (.inl (by omega))
        refine .inr (.inr ?_)
        have hlo := getD_snoc_last out ((cy + (a.getD i 0 + b.getD i 0)) % 10)
        rw [hl.out] at hlo
        rw [Nat.add_sub_cancel, hlo, getD_end a (by omega), getD_end b (by omega)]
        omega
      have S1 := Lib.hid s1
      have S2 := Lib.hid s2
      have S3 := s3
      have S4 := s4
      have S5 := Lib.hid s5
      have HTop := Lib.hid htop
      have hol : out.length ≤ 101 := by have := hl.out; omega
      clear s1 s2 s3 s4 s5 htop
      generalize a.getD i 0 = x at *
      generalize b.getD i 0 = y at *
      have hr := rem_at (s := cy + (x + y)) (by omega)
      have hq := quo_at (s := cy + (x + y)) (by omega)
      have hrb : 0 ≤ (cy + (x + y)) % 10 ∧ (cy + (x + y)) % 10 ≤ 9 := by omega
      have hcs : 0 ≤ cy + (x + y) ∧ cy + (x + y) ≤ 19 := by omega
      obtain ⟨hov, hrv, hfin⟩ := OI.snoc ho.out ((cy+(x+y))%10) hbw.out
      have HOv := Lib.hid hov
      have HRv := Lib.hid hrv
      have HFin := Lib.hid hfin
      have hszB := hbw.out.size
      clear hov hrv hfin
      by_cases g1 : i < a.length
      · clear hgo
        go_wp2_with fail
        refine HDg1.out.mono ?_
        rintro e w1 ⟨rfl, rfl⟩
        go_wp2_with fail
        refine HDg2.out.mono ?_
        rintro e w1 ⟨rfl, rfl⟩
        go_wp2_with (at_builtin; refine wpList_appendV _ rfl _ _ _ rfl 3 i0 _ 8 Tryz.underlying25 hi hz0 hz1 hz2 rfl w.heap.size _ _ rfl HOv.out _ _ rfl HRv.out (one_ones rfl) (by first | omega | (simp; omega)) (by first | omega | (simp; omega)) (by first | omega | (simp; omega)) ?_; intro v1 w3 hown hg hat; obtain ⟨hf1, hf2⟩ := HFin.out v1 w3 hown hg; have HF1 := Lib.hid hf1; have HF2 := Lib.hid hf2; clear hown hg hat hf1 hf2)
        go_wp2
        go_roundw
        case rel => exact ⟨i + 1, _, _, _, rfl, rfl, by go_num, S3, S4, hi100, HF1.out, HF2.out, S1.out, S2.out, S5.out, HTop.out⟩
        case measure => simp [intOf] <;> omega
      by_cases g2 : i < b.length
      · clear hgo
        go_wp2_with fail
        refine HDg1.out.mono ?_
        rintro e w1 ⟨rfl, rfl⟩
        go_wp2_with fail
        refine HDg2.out.mono ?_
        rintro e w1 ⟨rfl, rfl⟩
        go_wp2_with (at_builtin; refine wpList_appendV _ rfl _ _ _ rfl 3 i0 _ 8 Tryz.underlying25 hi hz0 hz1 hz2 rfl w.heap.size _ _ rfl HOv.out _ _ rfl HRv.out (one_ones rfl) (by first | omega | (simp; omega)) (by first | omega | (simp; omega)) (by first | omega | (simp; omega)) ?_; intro v1 w3 hown hg hat; obtain ⟨hf1, hf2⟩ := HFin.out v1 w3 hown hg; have HF1 := Lib.hid hf1; have HF2 := Lib.hid hf2; clear hown hg hat hf1 hf2)
        go_wp2
        go_roundw
        case rel => exact ⟨i + 1, _, _, _, rfl, rfl, by go_num, S3, S4, hi100, HF1.out, HF2.out, S1.out, S2.out, S5.out, HTop.out⟩
        case measure => simp [intOf] <;> omega
      · have g3 : 0 < cy := by omega
        clear hgo
        go_wp2_with fail
        refine HDg1.out.mono ?_
        rintro e w1 ⟨rfl, rfl⟩
        go_wp2_with fail
        refine HDg2.out.mono ?_
        rintro e w1 ⟨rfl, rfl⟩
        go_wp2_with (at_builtin; refine wpList_appendV _ rfl _ _ _ rfl 3 i0 _ 8 Tryz.underlying25 hi hz0 hz1 hz2 rfl w.heap.size _ _ rfl HOv.out _ _ rfl HRv.out (one_ones rfl) (by first | omega | (simp; omega)) (by first | omega | (simp; omega)) (by first | omega | (simp; omega)) ?_; intro v1 w3 hown hg hat; obtain ⟨hf1, hf2⟩ := HFin.out v1 w3 hown hg; have HF1 := Lib.hid hf1; have HF2 := Lib.hid hf2; clear hown hg hat hf1 hf2)
        go_wp2
        go_roundw
        case rel => exact ⟨i + 1, _, _, _, rfl, rfl, by go_num, S3, S4, hi100, HF1.out, HF2.out, S1.out, S2.out, S5.out, HTop.out⟩
        case measure => simp [intOf] <;> omega
    · have g1 : ¬ i < a.length := fun h => hgo (.inl h)
      have g2 : ¬ i < b.length := fun h => hgo (.inr (.inl h))
      have g3 : ¬ 0 < cy := fun h => hgo (.inr (.inr h))
      obtain rfl : cy = 0 := by omega
      obtain ⟨r1, r2⟩ := HDone.out out i hl.out hd.out (by omega) (by omega) hv.out (by
        rcases ht.out with h | h | h
        · exact .inl h
        · exact .inr (.inl h)
        · exact .inr (.inr h.2))
      have R1 := Lib.hid r1
      have R2 := Lib.hid r2
      clear r1 r2 hgo
      go_wp2
      go_ret
      exact ⟨_, rfl, hbw.out, out, ho.out, hd.out, R1.out, R2.out⟩
end Go.Proofs.YtefggpdobjboeaaGreat
