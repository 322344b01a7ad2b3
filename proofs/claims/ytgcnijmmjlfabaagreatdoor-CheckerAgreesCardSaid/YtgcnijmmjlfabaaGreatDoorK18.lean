/- Words as numbers, in plain Lean: what is canonical, what it is worth, what the library's Atoi says of it. No program in sight.
   Contracts of strings.Split, Trim, CutPrefix, strconv.Atoi, as the checker calls them.
   Contracts of the checker's canonical and numbers.
   Contract of the checker's numbers.
   Contracts of slices.Index at texts, of the checker's kinds, and of the search of a kind. -/
import Derived.Test.YtgcnijmmjlfabaaGreatDoorK17
set_option maxRecDepth 100000
set_option maxHeartbeats 16000000
namespace Go.Proofs.YtgcnijmmjlfabaaGreatDoor
open Go.RowKit Go.Shelf

def isDg (c : UInt8) : Bool := decide (48 ≤ c.toNat) && decide (c.toNat ≤ 57)
/-- A word without its minus. -/
def magW : List UInt8 → List UInt8
  | [] => []
  | c :: r => if c = 45 then r else c :: r
/-- Whether a word begins with a minus. -/
def minW : List UInt8 → Bool
  | [] => false
  | c :: _ => decide (c = 45)
/-- Whether a word is a canonical integer. -/
def canB (s : List UInt8) : Bool := decide (magW s ≠ []) && (magW s).all isDg && (decide ((magW s).getD 0 0 ≠ 48) || (decide (magW s = [48]) && !minW s))
def stepD (acc : Nat) (c : UInt8) : Nat := acc * 10 + (c.toNat - 48)
def decV (acc : Nat) (l : List UInt8) : Nat := l.foldl stepD acc
theorem decV_nil (acc : Nat) : decV acc [] = acc := rfl
theorem decV_cons (acc : Nat) (c : UInt8) (r : List UInt8) : decV acc (c :: r) = decV (acc * 10 + (c.toNat - 48)) r := by
  unfold decV
  rw [List.foldl_cons, stepD]
/-- What a word is worth. -/
def wv (s : List UInt8) : Int := if minW s then -((decV 0 (magW s) : Nat) : Int) else ((decV 0 (magW s) : Nat) : Int)
theorem decV_ge (l : List UInt8) : ∀ acc : Nat, acc ≤ decV acc l := by
  induction l with
  | nil => intro acc; rw [decV_nil]; exact Nat.le_refl _
  | cons c r ih =>
    intro acc
    rw [decV_cons]
    exact Nat.le_trans (Nat.le_trans (Nat.le_mul_of_pos_right acc (by decide)) (Nat.le_add_right _ _)) (ih (acc * 10 + (c.toNat - 48)))
theorem parse_dec (l : List UInt8) : ∀ acc : Nat, l.all isDg = true → acc < 18446744073709551616 → Go.Lib.parseUint10 acc l = if decV acc l < 18446744073709551616 then .ok (decV acc l) else .range := by
  induction l with
  | nil => intro acc _ ha; rw [decV_nil, if_pos ha]; rfl
  | cons c r ih =>
    intro acc hd ha
    rw [List.all_cons, Bool.and_eq_true] at hd
    obtain ⟨h1, h2⟩ := hd
    unfold isDg at h1
    simp only [Bool.and_eq_true, decide_eq_true_eq] at h1
    have h3 := decV_ge r (acc * 10 + (c.toNat - 48))
    have h4 := ih (acc * 10 + (c.toNat - 48)) h2
    rw [Go.Lib.parseUint10, if_pos h1, decV_cons]
    generalize decV (acc * 10 + (c.toNat - 48)) r = x at *
    by_cases c1 : 1844674407370955162 ≤ acc
    · rw [if_pos c1, if_neg (by omega)]
    · rw [if_neg c1]
      by_cases c2 : 18446744073709551616 ≤ acc * 10 + (c.toNat - 48)
      · rw [if_pos c2, if_neg (by omega)]
      · rw [if_neg c2, h4 (by omega)]
theorem canB_parts {s : List UInt8} (h : canB s = true) : magW s ≠ [] ∧ (magW s).all isDg = true ∧ ((magW s).getD 0 0 ≠ 48 ∨ (magW s = [48] ∧ minW s = false)) := by
  unfold canB at h
  simp only [Bool.and_eq_true, Bool.or_eq_true, Bool.not_eq_true', decide_eq_true_eq] at h
  exact ⟨h.1.1, h.1.2, h.2⟩
/-- The library's Atoi at a canonical word. -/
theorem atoi_can {s : List UInt8} (h : canB s = true) : Go.Lib.atoiAll s = if -9223372036854775808 ≤ wv s ∧ wv s ≤ 9223372036854775807 then .ok (wv s) else .range := by
  obtain ⟨h1, h2, -⟩ := canB_parts h
  have hp := parse_dec (magW s) 0 h2 (by omega)
  have hm : Go.Lib.parseMag (magW s) = if decV 0 (magW s) < 18446744073709551616 then .ok (decV 0 (magW s)) else .range := by
    unfold Go.Lib.parseMag; rw [if_neg h1]; exact hp
  cases s with
  | nil => exact absurd rfl h1
  | cons c r =>
    by_cases hc : c = 45
    · subst hc
      have e1 : magW (45 :: r) = r := by simp [magW]
      have e2 : minW (45 :: r) = true := rfl
      have e3 : wv (45 :: r) = -((decV 0 r : Nat) : Int) := by unfold wv; rw [e1, e2]; rfl
      rw [e1] at hm
      rw [Go.Lib.atoiAll_minus, hm, e3]
      generalize decV 0 r = n at *
      by_cases c1 : n < 18446744073709551616
      · rw [if_pos c1]
        by_cases c2 : 9223372036854775808 < n
        · rw [if_neg (by omega)]; show (if _ then _ else _) = _; rw [if_pos c2]
        · rw [if_pos (by omega)]; show (if _ then _ else _) = _; rw [if_neg c2]
      · rw [if_neg c1, if_neg (by omega)]; rfl
    · have e1 : magW (c :: r) = c :: r := by simp [magW, hc]
      have e2 : minW (c :: r) = false := decide_eq_false hc
      have e3 : wv (c :: r) = ((decV 0 (c :: r) : Nat) : Int) := by unfold wv; rw [e1, e2]; rfl
      rw [e1] at hm h2
      have hcd : 48 ≤ c.toNat := by
        rw [List.all_cons, Bool.and_eq_true] at h2
        have := h2.1
        unfold isDg at this
        simp only [Bool.and_eq_true, decide_eq_true_eq] at this
        exact this.1
      rw [Go.Lib.atoiAll_plain c r (by omega) (by omega), hm, e3]
      generalize decV 0 (c :: r) = n at *
      by_cases c1 : n < 18446744073709551616
      · rw [if_pos c1]
        by_cases c2 : 9223372036854775808 ≤ n
        · rw [if_neg (by omega)]; show (if _ then _ else _) = _; rw [if_pos c2]
        · rw [if_pos (by omega)]; show (if _ then _ else _) = _; rw [if_neg c2]
      · rw [if_neg c1, if_neg (by omega)]; rfl
/-- The digits of a word, the last one first. -/
def dgsW (d : List UInt8) : List Int := d.reverse.map fun c => (c.toNat : Int) - 48
theorem dgsW_cons (c : UInt8) (r : List UInt8) : dgsW (c :: r) = dgsW r ++ [(c.toNat : Int) - 48] := by simp [dgsW]
theorem dgsW_len (d : List UInt8) : (dgsW d).length = d.length := by simp [dgsW]
theorem dgsW_dig : ∀ {d : List UInt8}, d.all isDg = true → Dig (dgsW d)
  | [], _ => fun k => by simp [dgsW]
  | c :: r, h => by
    rw [List.all_cons, Bool.and_eq_true] at h
    have h1 := h.1
    unfold isDg at h1
    simp only [Bool.and_eq_true, decide_eq_true_eq] at h1
    rw [dgsW_cons]
    exact (dgsW_dig h.2).snoc (by omega) (by omega)
theorem decV_dval (d : List UInt8) : ∀ acc : Nat, d.all isDg = true → ((decV acc d : Nat) : Int) = (acc : Int) * p10 d.length + dval (dgsW d) := by
  induction d with
  | nil => intro acc _; simp [decV_nil, dgsW, dval, p10]
  | cons c r ih =>
    intro acc h
    rw [List.all_cons, Bool.and_eq_true] at h
    have h1 := h.1
    unfold isDg at h1
    simp only [Bool.and_eq_true, decide_eq_true_eq] at h1
    rw [decV_cons, ih _ h.2, dgsW_cons, dval_snoc, dgsW_len, List.length_cons, p10]
    have e : ((acc * 10 + (c.toNat - 48) : Nat) : Int) = (acc : Int) * 10 + ((c.toNat : Int) - 48) := by omega
    rw [e]
    grind
theorem chrs_dgsW {d : List UInt8} (h : d.all isDg = true) : chrs (dgsW d) = d := by
  unfold chrs dgsW
  rw [← List.map_reverse, List.reverse_reverse, List.map_map]
  conv => rhs; rw [← List.map_id d]
  refine List.map_congr_left fun c hc => ?_
  have h1 := List.all_eq_true.1 h c hc
  unfold isDg at h1
  simp only [Bool.and_eq_true, decide_eq_true_eq] at h1
  show UInt8.ofNat (48 + ((c.toNat : Int) - 48)).toNat = c
  rw [show (48 + ((c.toNat : Int) - 48)).toNat = c.toNat by omega]
  exact UInt8.ofNat_toNat
/-- A canonical word is the text of what it is worth. -/
theorem can_text {s : List UInt8} (h : canB s = true) : ∃ (l : List Int) (m : Bool), textL l m = s ∧ Dig l ∧ Can l ∧ (l = [] → m = false) ∧ wv s = sgZ l m ∧ l.length ≤ (magW s).length ∧ (l ≠ [] → l.length = (magW s).length) := by
  obtain ⟨h1, h2, h3⟩ := canB_parts h
  have hv := decV_dval (magW s) 0 h2
  rw [Int.natCast_zero, Int.zero_mul, Int.zero_add] at hv
  by_cases h0 : magW s = [48]
  · have hm : minW s = false := by
      rcases h3 with h3 | h3
      · rw [h0] at h3; exact absurd rfl h3
      · exact h3.2
    have hs : s = [48] := by
      cases s with
      | nil => exact absurd rfl h1
      | cons c r =>
        have hc : c ≠ 45 := of_decide_eq_false hm
        rw [show magW (c :: r) = c :: r by simp [magW, hc]] at h0; exact h0
    subst hs
    exact ⟨[], false, rfl, dig_nil, .inl rfl, fun _ => rfl, by decide, by simp, fun h => absurd rfl h⟩
  · have hne : dgsW (magW s) ≠ [] := by
      intro e
      have := congrArg List.length e
      rw [dgsW_len] at this
      exact h1 (List.eq_nil_of_length_eq_zero this)
    have hhd : (magW s).getD 0 0 ≠ 48 := by
      rcases h3 with h3 | h3
      · exact h3
      · exact absurd h3.1 h0
    refine ⟨dgsW (magW s), minW s, ?_, dgsW_dig h2, .inr ?_, fun e => absurd e hne, ?_, by rw [dgsW_len]; exact Nat.le_refl _, fun _ => dgsW_len _⟩
    · unfold textL
      rw [if_neg hne, chrs_dgsW h2]
      cases s with
      | nil => exact absurd rfl h1
      | cons c r =>
        by_cases hc : c = 45
        · subst hc; rfl
        · rw [show magW (c :: r) = c :: r by simp [magW, hc], show minW (c :: r) = false from decide_eq_false hc]; rfl
    · cases hm : magW s with
      | nil => exact absurd hm h1
      | cons c r =>
        rw [hm] at hhd h2
        rw [dgsW_cons, List.length_append, List.length_singleton, Nat.add_sub_cancel, List.getD_eq_getElem?_getD, List.getElem?_append_right (Nat.le_refl _), Nat.sub_self]
        have hc : c ≠ 48 := hhd
        have : c.toNat ≠ 48 := fun e => hc (UInt8.toNat_inj.1 e)
        show (c.toNat : Int) - 48 ≠ 0
        omega
    · unfold wv sgZ; rw [hv]
/-- A word of many digits is worth much. -/
theorem can_long {s : List UInt8} (h : canB s = true) {k : Nat} (hk : k < (magW s).length) (hk1 : 1 ≤ k) : wv s ≤ -p10 k ∨ p10 k ≤ wv s := by
  obtain ⟨l, m, -, hd, hc, -, hw, hl, hl2⟩ := can_text h
  by_cases e : l = []
  · have h0 : magW s ≠ [48] := fun e => by rw [e] at hk; simp at hk; omega
    obtain ⟨-, h2, h3⟩ := canB_parts h
    rcases h3 with h3 | h3
    · exfalso
      have hv := decV_dval (magW s) 0 h2
      rw [Int.natCast_zero, Int.zero_mul, Int.zero_add] at hv
      have hw0 : wv s = 0 := by rw [hw, e]; unfold sgZ; split <;> rfl
      have hd0 : dval (dgsW (magW s)) = 0 := by
        have := hw0
        unfold wv at this
        rw [hv] at this
        split at this <;> omega
      cases hm : magW s with
      | nil => rw [hm] at hk; simp at hk
      | cons c r =>
        rw [hm] at hd0 h2 h3
        have hr : (r.all isDg) = true := by rw [List.all_cons, Bool.and_eq_true] at h2; exact h2.2
        rw [dgsW_cons, dval_snoc] at hd0
        have h4 := (dval_bd (dgsW_dig hr)).1
        have h5 : c.toNat ≠ 48 := fun e => h3 (UInt8.toNat_inj.1 e)
        have h6 : 48 ≤ c.toNat := by
          rw [List.all_cons, Bool.and_eq_true] at h2
          have := h2.1
          unfold isDg at this
          simp only [Bool.and_eq_true, decide_eq_true_eq] at this
          exact this.1
        have h7 := p10_pos (dgsW r).length
        have h8 := Int.mul_le_mul_of_nonneg_left (show (1 : Int) ≤ (c.toNat : Int) - 48 by omega) (show 0 ≤ p10 (dgsW r).length by omega)
        omega
    · exact absurd h3.1 h0
  · have h1 := can_ge hd hc e
    have h2 := p10_mono (a := k) (b := l.length - 1) (by rw [hl2 e]; omega)
    rw [hw]
    unfold sgZ
    cases m
    · rw [if_neg (by simp)]; omega
    · rw [if_pos rfl]; omega
theorem p10_19 : (9223372036854775808 : Int) ≤ p10 1024 := Int.le_trans (by decide : (9223372036854775808 : Int) ≤ p10 19) (p10_mono (by omega))
/-- What the numbers of words are worth; the number of the error. -/
def numsV (ws : List (List UInt8)) : List Int := ws.map wv
def numsE (ws : List (List UInt8)) : Int := if ws.all canB = false then 4 else if ws.all (fun s => decide (-1048576 ≤ wv s) && decide (wv s ≤ 1048576)) = false then 2 else 0
theorem trim_digits {d : List UInt8} : Go.Lib.trimS d [48, 49, 50, 51, 52, 53, 54, 55, 56, 57] = [] ↔ d.all isDg = true := by
  have hc : ∀ c : UInt8, ([48, 49, 50, 51, 52, 53, 54, 55, 56, 57] : List UInt8).contains c = isDg c := fun c => by
    have e : c = UInt8.ofNat c.toNat := UInt8.ofNat_toNat.symm
    have hl := c.toNat_lt
    rw [Bool.eq_iff_iff]
    unfold isDg
    simp only [List.contains_iff_mem, List.mem_cons, List.not_mem_nil, or_false, Bool.and_eq_true, decide_eq_true_eq]
    constructor
    · rintro (rfl | rfl | rfl | rfl | rfl | rfl | rfl | rfl | rfl | rfl) <;> decide
    · rintro ⟨h1, h2⟩
      have : c.toNat = 48 ∨ c.toNat = 49 ∨ c.toNat = 50 ∨ c.toNat = 51 ∨ c.toNat = 52 ∨ c.toNat = 53 ∨ c.toNat = 54 ∨ c.toNat = 55 ∨ c.toNat = 56 ∨ c.toNat = 57 := by omega
      rcases this with h | h | h | h | h | h | h | h | h | h <;> (rw [h] at e; rw [e]; decide)
  have h1 : ∀ l : List UInt8, l.dropWhile (fun c => ([48, 49, 50, 51, 52, 53, 54, 55, 56, 57] : List UInt8).contains c) = [] ↔ l.all isDg = true := fun l => by
    induction l with
    | nil => simp
    | cons c r ih =>
      rw [List.dropWhile_cons, List.all_cons, hc c]
      cases h : isDg c
      · simp
      · simpa using ih
  have h2 : ∀ l : List UInt8, (l.dropWhile (fun c => ([48, 49, 50, 51, 52, 53, 54, 55, 56, 57] : List UInt8).contains c)).all isDg = true → l.all isDg = true := fun l => by
    induction l with
    | nil => simp
    | cons c r ih =>
      rw [List.dropWhile_cons, List.all_cons, hc c]
      cases h : isDg c
      · simp [h]
      · simpa using ih
  unfold Go.Lib.trimS Go.Lib.trimLeftS Go.Lib.trimRightS
  rw [h1]
  rw [List.all_reverse]
  constructor
  · intro h
    have := h2 _ h
    rwa [List.all_reverse] at this
  · intro h
    have e := (h1 d.reverse).2 (by rw [List.all_reverse]; exact h)
    rw [e]; rfl
end Go.Proofs.YtgcnijmmjlfabaaGreatDoor

namespace Go.Proofs.YtgcnijmmjlfabaaGreatDoor
open Go.RowKit Go.Shelf

/-- A text's value. -/
def strV (l : List UInt8) : Value := .string ⟨l.toArray⟩
/-- What the library's variables hold. -/
def LV (w : World) : Prop := (∃ m, w.cell? ⟨0, 0, none⟩ = some (.int .i64 m)) ∧ ∃ ev, w.cell? ⟨2, 0, none⟩ = some ev ∧ (ev = .nilIface ∨ ∃ te pe, ev = .iface te pe)
theorem LV.below {w w' : World} (h : LV w) (hb : Below w.heap.size w w') : LV w' := by
  obtain ⟨⟨m, hm⟩, ev, he, h2⟩ := h
  exact ⟨⟨m, (hb.cell (World.block_lt_of_cell? _ _ hm)).trans hm⟩, ev, (hb.cell (World.block_lt_of_cell? _ _ he)).trans he, h2⟩
/-- A list of texts in memory. -/
def RS (w : World) (v : Value) (ws : List (List UInt8)) : Prop := RV w v (ws.map strV)
theorem RS.below {w w' : World} {v : Value} {ws : List (List UInt8)} (h : RS w v ws) (hb : Below w.heap.size w w') : RS w' v ws := RV.below h hb
theorem str_info : (Tryz.prog.info? 9).map (fun i => (i.zero, i.size, i.bytes)) = some (some (.string ByteArray.empty), 1, 16) := by kernel_rfl
theorem splitB_one (s : List UInt8) (c : UInt8) : (Go.Lib.splitB ⟨#[c]⟩ 0 (Go.Lib.countB ⟨s.toArray⟩ ⟨#[c]⟩) ⟨s.toArray⟩).map Value.string = (splitL c s).map strV := by
  have h := Go.Lib.splitB_data ⟨#[c]⟩ 0 (Go.Lib.countB ⟨s.toArray⟩ ⟨#[c]⟩) ⟨s.toArray⟩
  have h2 : Go.Lib.countB ⟨s.toArray⟩ ⟨#[c]⟩ = Go.Lib.count s [c] := rfl
  rw [h2] at h ⊢
  have h3 : ((⟨#[c]⟩ : ByteArray).data.toList) = [c] := rfl
  have h4 : ((⟨s.toArray⟩ : ByteArray).data.toList) = s := rfl
  rw [h3, h4, splitK_one] at h
  rw [← h, List.map_map]
  refine List.map_congr_left fun b _ => ?_
  show Value.string b = Value.string ⟨(b.data.toList).toArray⟩
  rw [Array.toArray_toList]
theorem split_any (s : List UInt8) (c : UInt8) (w : World) (hv : LV w) (hs : s.length ≤ 1000000) :
    Calls Tryz.prog 42 #[strV s, .string ⟨#[c]⟩] w fun e w' => ∃ v, e = .returned v ∧ RS w' v (splitL c s) ∧ Below w.heap.size w w' := by
  obtain ⟨⟨m, hm⟩, -⟩ := hv
  have hsz : (⟨s.toArray⟩ : ByteArray).size = s.length := by simp [ByteArray.size]
  have h := Any.strings_Split laySplit str_info ⟨s.toArray⟩ ⟨#[c]⟩ m w (by omega) hm (by simp [ByteArray.size])
  refine Calls.mono h ?_
  rintro e w' ⟨rfl, rfl⟩
  have hl : (Go.Lib.splitB ⟨#[c]⟩ 0 (Go.Lib.countB ⟨s.toArray⟩ ⟨#[c]⟩) ⟨s.toArray⟩).length = Go.Lib.countB ⟨s.toArray⟩ ⟨#[c]⟩ + 1 := Go.Lib.splitB_all _ (by simp [ByteArray.size]) 0 _ _ rfl
  refine ⟨_, rfl, ?_, below_alloc w _⟩
  rw [splitB_one]
  have hl2 : (splitL c s).length = Go.Lib.countB ⟨s.toArray⟩ ⟨#[c]⟩ + 1 := by rw [← hl, ← List.length_map (f := Value.string), splitB_one, List.length_map]
  have := RV.lit w ((splitL c s).map strV).toArray 9 (splitL c s).length (by simp) (by have := splitL_length c s; omega)
  rw [hl2] at this
  show RV _ _ _
  rw [List.toList_toArray] at this
  exact this
theorem trim_any (d : List UInt8) (w : World) (hs : d.length ≤ 1000000) :
    Calls Tryz.prog 118 #[strV d, .string ⟨#[48, 49, 50, 51, 52, 53, 54, 55, 56, 57]⟩] w fun e w' => e = .returned (strV (Go.Lib.trimS d [48, 49, 50, 51, 52, 53, 54, 55, 56, 57])) ∧ Below w.heap.size w w' := by
  have hsz : (⟨d.toArray⟩ : ByteArray).size = d.length := by simp [ByteArray.size]
  exact Any.strings_Trim_laid layTrim (by kernel_rfl) ⟨d.toArray⟩ ⟨#[48, 49, 50, 51, 52, 53, 54, 55, 56, 57]⟩ w (by omega) (by simp [ByteArray.size]) (ascii_of_all (by decide))
theorem atoi_in (s : List UInt8) (w : World) (hc : canB s = true) (hs : s.length ≤ 1000000) (h : -9223372036854775808 ≤ wv s ∧ wv s ≤ 9223372036854775807) :
    Calls Tryz.prog 80 #[strV s] w fun e w' => e = .returned (.tuple #[.int .i64 (wv s), .nilIface]) ∧ Below w.heap.size w w' := by
  have hsz : (⟨s.toArray⟩ : ByteArray).size = s.length := by simp [ByteArray.size]
  have ha := atoi_can hc
  rw [if_pos h] at ha
  refine (Any.strconv_Atoi_ok layAtoi ⟨s.toArray⟩ (by omega) (wv s) ha w).mono ?_
  rintro e w' ⟨rfl, h⟩
  refine ⟨rfl, ?_⟩
  rcases h with rfl | ⟨t, rfl⟩
  · exact Below.refl _ _
  · exact Go.Lib.bytesWorld_below _ _ _
theorem atoi_out (s : List UInt8) (w : World) (hv : LV w) (hc : canB s = true) (hs : s.length ≤ 1000000) (h : ¬ (-9223372036854775808 ≤ wv s ∧ wv s ≤ 9223372036854775807)) :
    Calls Tryz.prog 80 #[strV s] w fun e w' => ∃ x T p, e = .returned (.tuple #[.int .i64 x, .iface T p]) ∧ Below w.heap.size w w' := by
  obtain ⟨-, ev, he, hev⟩ := hv
  have hsz : (⟨s.toArray⟩ : ByteArray).size = s.length := by simp [ByteArray.size]
  have ha := atoi_can hc
  rw [if_neg h] at ha
  refine (Any.strconv_Atoi_range layAtoi ⟨s.toArray⟩ (by omega) ha ev w he hev).mono ?_
  rintro e w' ⟨N, rfl, -, -, hb⟩
  exact ⟨_, _, _, rfl, hb⟩
end Go.Proofs.YtgcnijmmjlfabaaGreatDoor

namespace Go.Proofs.YtgcnijmmjlfabaaGreatDoor
open Go.RowKit Go.Shelf

theorem extract_one (c : UInt8) (r : List UInt8) : ((⟨(c :: r).toArray⟩ : ByteArray).extract 0 1).toList = [c] := by
  have h := Go.Lib.extract_from_zero ⟨(c :: r).toArray⟩ 1
  rw [show (⟨(c :: r).toArray⟩ : ByteArray).data.toList = c :: r from rfl] at h
  rw [Go.Lib.toList_data, h]; rfl
theorem extract_rest (c : UInt8) (r : List UInt8) : (⟨(c :: r).toArray⟩ : ByteArray).extract 1 (⟨(c :: r).toArray⟩ : ByteArray).size = ⟨r.toArray⟩ := by
  have h := Go.Lib.extract_to_end ⟨(c :: r).toArray⟩ 1
  rw [show (⟨(c :: r).toArray⟩ : ByteArray).data.toList = c :: r from rfl] at h
  have e : ∀ a : ByteArray, a = ⟨a.data.toList.toArray⟩ := fun a => by cases a; simp
  rw [e (ByteArray.extract _ _ _), h]; rfl
theorem cutp_any (s : List UInt8) (w : World) :
    Calls Tryz.prog 117 #[strV s, .string ⟨#[45]⟩] w fun e w' => e = .returned (.tuple #[strV (magW s), .bool (minW s)]) ∧ w = w' := by
  unfold strV
  cases s with
  | nil =>
    go_enter Tryz.func117, Tryz.ntmps117
    go_wp2
    go_ret2
    exact ⟨rfl, rfl⟩
  | cons c r =>
    have h1 := extract_one c r
    have h2 := extract_rest c r
    have hsz : (⟨(c :: r).toArray⟩ : ByteArray).size = r.length + 1 := by simp [ByteArray.size]
    have h45 : (⟨#[45]⟩ : ByteArray).toList = [45] := ByteArray.toList_mk [45]
    rw [hsz] at h2
    generalize hS : (⟨(c :: r).toArray⟩ : ByteArray) = S at *
    by_cases hc : c = 45
    · have HR : Hid (magW (c :: r) = r ∧ minW (c :: r) = true) := ⟨by simp [magW, hc], by simp [minW, hc]⟩
      have t : ((S.extract 0 1).toList == [45]) = true := by rw [h1, hc]; rfl
      clear hS h1
      go_enter Tryz.func117, Tryz.ntmps117
      go_wp2
      go_ret2
      exact ⟨by rw [HR.out.1, HR.out.2]; rfl, rfl⟩
    · have HR : Hid (magW (c :: r) = c :: r ∧ minW (c :: r) = false) := ⟨by simp [magW, hc], by simp [minW, hc]⟩
      have t : ((S.extract 0 1).toList == [45]) = false := by rw [h1]; simpa using hc
      have HS := Lib.hid hS
      clear hS h1 h2
      go_enter Tryz.func117, Tryz.ntmps117
      go_wp2
      go_ret2
      exact ⟨by rw [HR.out.1, HR.out.2, HS.out]; rfl, rfl⟩
theorem magW_le (s : List UInt8) : (magW s).length ≤ s.length := by
  cases s with
  | nil => simp [magW]
  | cons c r =>
    by_cases hc : c = 45
    · simp [magW, hc]
    · simp [magW, hc]
theorem kCan_any (s : List UInt8) (w : World) (hs : s.length ≤ 1000000) :
    Calls Tryz.prog 79 #[strV s] w fun e w' => e = .returned (.bool (canB s)) ∧ Below w.heap.size w w' := by
  have HCu := Lib.hid (cutp_any s w)
  have hml : (magW s).length ≤ 1000000 := Nat.le_trans (magW_le s) hs
  have HTr : Hid (∀ W, Calls Tryz.prog 118 #[strV (magW s), .string ⟨#[48, 49, 50, 51, 52, 53, 54, 55, 56, 57]⟩] W fun e w' => e = .returned (strV (Go.Lib.trimS (magW s) [48, 49, 50, 51, 52, 53, 54, 55, 56, 57])) ∧ Below W.heap.size W w') := fun W => trim_any (magW s) W hml
  have HSp : Hid (canB s = (decide (magW s ≠ []) && (magW s).all isDg && (decide ((magW s).getD 0 0 ≠ 48) || (decide (magW s = [48]) && !minW s)))) := rfl
  generalize canB s = cb at *
  generalize magW s = d at *
  generalize minW s = mi at *
  have htr := trim_digits (d := d)
  generalize Go.Lib.trimS d [48, 49, 50, 51, 52, 53, 54, 55, 56, 57] = tr at *
  obtain ⟨S, hS⟩ : ∃ S, S = ByteArray.mk d.toArray := ⟨_, rfl⟩
  obtain ⟨T, hT⟩ : ∃ T, T = ByteArray.mk tr.toArray := ⟨_, rfl⟩
  have hSl : S.toList = d := by rw [hS]; exact ByteArray.toList_mk d
  have hTl : T.toList = tr := by rw [hT]; exact ByteArray.toList_mk tr
  have h0 : (⟨#[]⟩ : ByteArray).toList = [] := ByteArray.toList_mk []
  have h48 : (⟨#[48]⟩ : ByteArray).toList = [48] := ByteArray.toList_mk [48]
  have eS : strV d = .string S := by rw [hS]; rfl
  have eT : strV tr = .string T := by rw [hT]; rfl
  have hsz : S.size = d.length := by rw [hS]; simp [ByteArray.size]
  rw [eS] at HCu
  have HCu2 := Lib.hid HCu.out
  rw [eS, eT] at HTr
  cases d with
  | nil =>
    have HR : Hid (cb = false) := by show _ = _; rw [HSp.out]; rfl
    have t1 : (S.toList == []) = true := by rw [hSl]; rfl
    clear HSp htr hSl hTl hS hT hsz eS eT HCu
    go_enter Tryz.func79, Tryz.ntmps79
    go_wp2_with fail
    refine HCu2.out.mono ?_
    rintro e w2 ⟨rfl, rfl⟩
    go_wp2
    go_ret
    exact ⟨ret_b HR.out.symm, Below.refl _ _⟩
  | cons c r =>
    have t1 : (S.toList == []) = false := by rw [hSl]; rfl
    have hix : ∀ W : World, (Instr.index 9 (.string S) (.int .i64 0)).run Tryz.prog W = .ok (.int .u8 (c.toNat : Int)) W := fun W => by
      rw [run_index_string _ _ _ _ _ Tryz.underlying9, dif_pos (by rw [hsz]; simp)]
      subst hS
      simp [ByteArray.getElem_eq_getElem_data]
    by_cases hd : (c :: r).all isDg = true
    · have t2 : (T.toList == []) = true := by rw [hTl, htr.2 hd]; rfl
      have HSp2 : Hid (cb = (decide (c ≠ 48) || (decide (c :: r = [48]) && !mi))) := by
        show _ = _
        rw [HSp.out, hd]; simp
      by_cases hc : c = 48
      · have hc48 : ((c.toNat : Int) == 48) = true := by rw [hc]; rfl
        have hcn : ((c.toNat : Int) != 48) = false := by rw [hc]; rfl
        by_cases hr : r = []
        · have t3 : (S.toList == [48]) = true := by rw [hSl, hc, hr]; rfl
          have HR : Hid (cb = !mi) := by show _ = _; rw [HSp2.out, hc, hr]; simp
          clear HSp HSp2 htr hSl hTl hS hT eS eT HCu hd hc hr
          generalize (c.toNat : Int) = cn at *
          cases mi
          · skip
            go_enter Tryz.func79, Tryz.ntmps79
            go_wp2_with fail
            refine HCu2.out.mono ?_
            rintro e w2 ⟨rfl, rfl⟩
            go_wp2_with fail
            refine (HTr.out _).mono ?_
            rintro e w3 ⟨rfl, hb3⟩
            go_wp2
            go_ret
            exact ⟨ret_b HR.out.symm, hb3⟩
          · skip
            go_enter Tryz.func79, Tryz.ntmps79
            go_wp2_with fail
            refine HCu2.out.mono ?_
            rintro e w2 ⟨rfl, rfl⟩
            go_wp2_with fail
            refine (HTr.out _).mono ?_
            rintro e w3 ⟨rfl, hb3⟩
            go_wp2
            go_ret
            exact ⟨ret_b HR.out.symm, hb3⟩
        · have t3 : (S.toList == [48]) = false := by rw [hSl, hc]; simpa using hr
          have HR : Hid (cb = false) := by show _ = _; rw [HSp2.out, hc]; simp [hr]
          clear HSp HSp2 htr hSl hTl hS hT eS eT HCu hd hc hr
          generalize (c.toNat : Int) = cn at *
          go_enter Tryz.func79, Tryz.ntmps79
          go_wp2_with fail
          refine HCu2.out.mono ?_
          rintro e w2 ⟨rfl, rfl⟩
          go_wp2_with fail
          refine (HTr.out _).mono ?_
          rintro e w3 ⟨rfl, hb3⟩
          go_wp2
          go_ret
          exact ⟨ret_b HR.out.symm, hb3⟩
      · have hcn : ((c.toNat : Int) != 48) = true := by
          have : c.toNat ≠ 48 := fun e => hc (UInt8.toNat_inj.1 e)
          simp; omega
        have HR : Hid (cb = true) := by show _ = _; rw [HSp2.out]; simp [hc]
        clear HSp HSp2 htr hSl hTl hS hT eS eT HCu hd hc
        generalize (c.toNat : Int) = cn at *
        go_enter Tryz.func79, Tryz.ntmps79
        go_wp2_with fail
        refine HCu2.out.mono ?_
        rintro e w2 ⟨rfl, rfl⟩
        go_wp2_with fail
        refine (HTr.out _).mono ?_
        rintro e w3 ⟨rfl, hb3⟩
        go_wp2
        go_ret
        exact ⟨ret_b HR.out.symm, hb3⟩
    · have t2 : (T.toList == []) = false := by
        rw [hTl]
        cases htt : tr with
        | nil => exact absurd (htr.1 htt) hd
        | cons _ _ => rfl
      have HR : Hid (cb = false) := by show _ = _; rw [HSp.out]; simp only [Bool.not_eq_true] at hd; rw [hd]; simp
      clear HSp htr hSl hTl hS hT eS eT HCu hd
      go_enter Tryz.func79, Tryz.ntmps79
      go_wp2_with fail
      refine HCu2.out.mono ?_
      rintro e w2 ⟨rfl, rfl⟩
      go_wp2_with fail
      refine (HTr.out _).mono ?_
      rintro e w3 ⟨rfl, hb3⟩
      go_wp2
      go_ret
      exact ⟨ret_b HR.out.symm, hb3⟩
end Go.Proofs.YtgcnijmmjlfabaaGreatDoor

namespace Go.Proofs.YtgcnijmmjlfabaaGreatDoor
open Go.RowKit Go.Shelf

theorem RS.open_ {w : World} {v : Value} {ws : List (List UInt8)} (h : RS w v ws) : ∃ A c, v = .slice A ws.length c ∧ ws.length ≤ c ∧
    ∀ k, k < ws.length → ∃ ad, A = some ad ∧ ad.block < w.heap.size ∧ w.cell? (ad.add k) = some (strV (ws.getD k [])) := by
  obtain ⟨A, c, h1, h2, h3, h4⟩ := h
  simp only [List.length_map] at h1 h2 h3 h4
  refine ⟨A, c, h1, h2, fun k hk => ?_⟩
  obtain ⟨ad, e, hb, hc⟩ := h4 k hk
  exact ⟨ad, e, hb, hc.trans (by simp [List.getElem?_map, List.getElem?_eq_getElem hk, List.getD_eq_getElem?_getD])⟩
def smallB (s : List UInt8) : Bool := decide (-1048576 ≤ wv s) && decide (wv s ≤ 1048576)
theorem all_take {α : Type} {p : α → Bool} {l : List α} {k : Nat} {x : α} (h : l[k]? = some x) (hA : (l.take k).all p = true) (hx : p x = true) : (l.take (k + 1)).all p = true := by
  rw [List.take_add_one, h, List.all_append, hA]; simp [hx]
theorem all_not {α : Type} {p : α → Bool} {l : List α} {k : Nat} {x : α} (h : l[k]? = some x) (hx : p x = false) : l.all p = false := by
  rw [List.all_eq_false]
  exact ⟨x, List.mem_of_getElem? h, by rw [hx]; simp⟩
theorem kNums_any (v : Value) (ws : List (List UInt8)) (w : World) (hv : RS w v ws) (hlv : LV w) (hl : ws.length ≤ 100000) (hs : ∀ s ∈ ws, s.length ≤ 1000000) :
    Calls Tryz.prog 47 #[v] w fun e w' => ∃ vo, e = .returned (.tuple #[vo, .int .i64 (numsE ws)]) ∧ (numsE ws = 0 → RI w' vo (numsV ws)) ∧ Below w.heap.size w w' := by
  obtain ⟨i0, hi, hz0, hz1, hz2⟩ := info_parts int_info
  obtain ⟨A, c, rfl, hlc, hcell⟩ := hv.open_
  have HC := Lib.hid hcell
  have HLV := Lib.hid hlv
  have HS := Lib.hid hs
  clear hcell hv hlv hs
  go_enter Tryz.func47, Tryz.ntmps47
  go_wp2_with fail
  go_loopw [13] (fun i wr => ∃ k : Nat, k ≤ ws.length ∧ i = .int .i64 (k : Int) ∧ Hid ((ws.take k).all canB = true) ∧ Hid (Below w.heap.size w wr)) (fun i _ => ws.length - (intOf i).toNat)
  case atStart => exact ⟨0, Nat.zero_le _, rfl, rfl, Below.refl _ _⟩
  case round =>
    obtain ⟨k, hk, rfl, hA, hb⟩ := hrel
    by_cases hlt : k < ws.length
    · obtain ⟨ad, rfl, hadb, hcl⟩ := HC.out k hlt
      have hc2 := (hb.out.cell (p := ad.add k) (by rw [block_of_add]; exact hadb)).trans hcl
      have hx : ws[k]? = some (ws.getD k []) := by rw [List.getD_eq_getElem?_getD, List.getElem?_eq_getElem hlt]; rfl
      have HX := Lib.hid hx
      generalize ws.getD k [] = s at *
      have HCan := Lib.hid (kCan_any s wr (HS.out s (List.mem_of_getElem? HX.out)))
      clear hcl hx
      have hcv : strV s = .string ⟨s.toArray⟩ := rfl
      rw [hcv] at HCan hc2
      clear hcv
      generalize (⟨s.toArray⟩ : ByteArray) = S at *
      cases hcb : canB s
      · have HR : Hid (numsE ws = 4) := by
          show _ = _; unfold numsE; rw [all_not HX.out hcb]; rfl
        rw [hcb] at HCan
        clear hcb
        go_wp2_with fail
        refine HCan.out.mono ?_
        rintro e w2 ⟨rfl, hb2⟩
        have HB2 := Lib.hid (hb.out.trans (hb2.mono hb.out.size))
        clear hb2
        go_wp2
        go_ret2
        exact ⟨.slice none 0 0, by rw [HR.out] <;> rfl, fun h => absurd (HR.out.symm.trans h) (by decide), HB2.out⟩
      · have HA2 : Hid ((ws.take (k + 1)).all canB = true) := all_take HX.out hA.out hcb
        rw [hcb] at HCan
        clear hcb
        go_wp2_with fail
        refine HCan.out.mono ?_
        rintro e w2 ⟨rfl, hb2⟩
        have HB2 := Lib.hid (hb.out.trans (hb2.mono hb.out.size))
        clear hb2
        go_wp2
        go_roundw
        case rel => exact ⟨k + 1, by omega, by go_num, HA2.out, HB2.out⟩
        case measure => simp [intOf]; omega
    · have HAll : Hid (ws.all canB = true) := by
        have := hA.out
        rwa [List.take_of_length_le (by omega)] at this
      have HNs : Hid (numsE ws = if ws.all smallB = false then 2 else 0) := by
        show _ = _; unfold numsE; rw [HAll.out]; rfl
      go_wp2_with fail
      clear hA hlt hk
      obtain ⟨w0, rfl⟩ : ∃ w0, w0 = wr := ⟨_, rfl⟩
      go_loopw [6, 23] (fun o i wr => ∃ (k : Nat) (vo : Value), vo = o ∧ k ≤ ws.length ∧ i = .int .i64 (k : Int) ∧ Hid ((ws.take k).all smallB = true) ∧ Hid (OI wr w.heap.size o (numsV (ws.take k))) ∧ Hid (Below w.heap.size w wr)) (fun _ i _ => ws.length - (intOf i).toNat)
      case atStart => exact ⟨0, _, rfl, Nat.zero_le _, rfl, rfl, OI.nil_ _ _, hb.out⟩
      case round =>
        obtain ⟨k, vo, rfl, hk, rfl, hA, ho, hbk⟩ := hrel
        by_cases hlt : k < ws.length
        · obtain ⟨ad, rfl, hadb, hcl⟩ := HC.out k hlt
          have hc2 := (hbk.out.cell (p := ad.add k) (by rw [block_of_add]; exact hadb)).trans hcl
          have hx : ws[k]? = some (ws.getD k []) := by rw [List.getD_eq_getElem?_getD, List.getElem?_eq_getElem hlt]; rfl
          have HX := Lib.hid hx
          generalize ws.getD k [] = s at *
          have hcan : canB s = true := List.all_eq_true.1 HAll.out s (List.mem_of_getElem? HX.out)
          have hsl := HS.out s (List.mem_of_getElem? HX.out)
          clear hcl hx
          have HLw := Lib.hid (HLV.out.below hbk.out)
          by_cases hr : -9223372036854775808 ≤ wv s ∧ wv s ≤ 9223372036854775807
          · have HAt := Lib.hid (atoi_in s wr hcan hsl hr)
            have hnl : (numsV (ws.take k)).length ≤ ws.length := by unfold numsV; rw [List.length_map, List.length_take]; omega
            have HTk : Hid (numsV (ws.take (k + 1)) = numsV (ws.take k) ++ [wv s]) := by
              show _ = _; unfold numsV; rw [List.take_add_one, HX.out, List.map_append]; rfl
            have HA2 : Hid (-1048576 ≤ wv s ∧ wv s ≤ 1048576 → (ws.take (k + 1)).all smallB = true) := fun h => all_take HX.out hA.out (by unfold smallB; simp; exact h)
            have HBad : Hid (¬ (-1048576 ≤ wv s ∧ wv s ≤ 1048576) → numsE ws = 2) := fun h => by
              rw [HNs.out, all_not HX.out (p := smallB) (by unfold smallB; simp; omega)]; rfl
            have hcv : strV s = .string ⟨s.toArray⟩ := rfl
            rw [hcv] at HAt hc2
            generalize (⟨s.toArray⟩ : ByteArray) = S at *
            generalize wv s = z at *
            clear hcv hcan hsl
            by_cases hsm : -1048576 ≤ z ∧ z ≤ 1048576
            · have HA3 := Lib.hid (HA2.out hsm)
              clear HA2 HBad
              go_wp2_with fail
              refine HAt.out.mono ?_
              rintro e w2 ⟨rfl, hb2⟩
              have HB2 := Lib.hid (hbk.out.trans (hb2.mono hbk.out.size))
              have HO2 : Hid (OI w2 w.heap.size vo (numsV (ws.take k))) := ho.out.below hb2
              clear hb2 hc2
              obtain ⟨hov, hrv, hfin⟩ := OI.snoc HO2.out z HB2.out
              have HOv := Lib.hid hov
              have HRv := Lib.hid hrv
              have HFin := Lib.hid hfin
              have hszB := HB2.out.size
              clear hov hrv hfin
              generalize numsV (ws.take k) = os at *
              go_wp2_with (at_builtin; refine wpList_appendV _ rfl _ _ _ rfl 3 i0 _ 8 Tryz.underlying42 hi hz0 hz1 hz2 rfl w.heap.size _ _ rfl HOv.out _ _ rfl HRv.out (one_ones rfl) (by first | omega | (simp; omega)) (by first | omega | (simp; omega)) (by first | omega | (simp; omega)) ?_; intro v1 w3 hown hg hat; obtain ⟨hf1, hf2⟩ := HFin.out v1 w3 hown hg; have HF1 := Lib.hid hf1; have HF2 := Lib.hid hf2; clear hown hg hat hf1 hf2)
              go_wp2
              go_roundw
              case rel => exact ⟨k + 1, _, rfl, by omega, by go_num, HA3.out, by rw [HTk.out]; exact HF1.out, HF2.out⟩
              case measure => simp [intOf]; omega
            · have HR : Hid (numsE ws = 2) := HBad.out hsm
              clear HA2 HBad
              by_cases hlo : z < -1048576
              · go_wp2_with fail
                refine HAt.out.mono ?_
                rintro e w2 ⟨rfl, hb2⟩
                have HB2 := Lib.hid (hbk.out.trans (hb2.mono hbk.out.size))
                clear hb2 hc2
                go_wp2
                go_ret2
                exact ⟨.slice none 0 0, by rw [HR.out] <;> rfl, fun h => absurd (HR.out.symm.trans h) (by decide), HB2.out⟩
              · have hhi : 1048576 < z := by omega
                go_wp2_with fail
                refine HAt.out.mono ?_
                rintro e w2 ⟨rfl, hb2⟩
                have HB2 := Lib.hid (hbk.out.trans (hb2.mono hbk.out.size))
                clear hb2 hc2
                go_wp2
                go_ret2
                exact ⟨.slice none 0 0, by rw [HR.out] <;> rfl, fun h => absurd (HR.out.symm.trans h) (by decide), HB2.out⟩
          · have HAt := Lib.hid (atoi_out s wr HLw.out hcan hsl hr)
            have HR : Hid (numsE ws = 2) := by
              show _ = _
              rw [HNs.out, all_not HX.out (p := smallB) (by unfold smallB; simp; omega)]; rfl
            have hcv : strV s = .string ⟨s.toArray⟩ := rfl
            rw [hcv] at HAt hc2
            generalize (⟨s.toArray⟩ : ByteArray) = S at *
            clear hcv hcan hsl hr
            go_wp2_with fail
            refine HAt.out.mono ?_
            rintro e w2 ⟨x, T, p, rfl, hb2⟩
            have HB2 := Lib.hid (hbk.out.trans (hb2.mono hbk.out.size))
            clear hb2 hc2
            go_wp2
            go_ret2
            exact ⟨.slice none 0 0, by rw [HR.out] <;> rfl, fun h => absurd (HR.out.symm.trans h) (by decide), HB2.out⟩
        · have HAs : Hid (ws.all smallB = true) := by
            have := hA.out
            rwa [List.take_of_length_le (by omega)] at this
          have HR : Hid (numsE ws = 0) := by show _ = _; rw [HNs.out, HAs.out]; rfl
          have HO2 : Hid (RI wr vo (numsV ws)) := by
            have := ho.out
            rw [List.take_of_length_le (by omega)] at this
            exact this.ri
          clear hA ho
          go_wp2
          go_ret2
          exact ⟨vo, by rw [HR.out] <;> rfl, fun _ => HO2.out, hbk.out⟩
end Go.Proofs.YtgcnijmmjlfabaaGreatDoor

namespace Go.Proofs.YtgcnijmmjlfabaaGreatDoor
open Go.RowKit Go.Shelf

/-- The first place of something. -/
def idxG {α : Type} [DecidableEq α] (v : α) : List α → Int
  | [] => -1
  | z :: r => if v = z then 0 else if idxG v r < 0 then -1 else idxG v r + 1
theorem idxG_lo {α : Type} [DecidableEq α] (v : α) (l : List α) : -1 ≤ idxG v l := by
  induction l with
  | nil => exact Int.le_refl _
  | cons z r ih => simp only [idxG]; split <;> (try split) <;> omega
theorem idxG_hi {α : Type} [DecidableEq α] (v : α) (l : List α) : idxG v l < l.length := by
  induction l with
  | nil => simp [idxG]
  | cons z r ih => simp only [idxG, List.length_cons]; split <;> (try split) <;> omega
theorem idxG_at {α : Type} [DecidableEq α] {v : α} {l : List α} {k : Nat} (h : idxG v l = k) : l[k]? = some v := by
  induction l generalizing k with
  | nil => simp [idxG] at h
  | cons z r ih =>
    simp only [idxG] at h
    by_cases e : v = z
    · rw [if_pos e] at h
      obtain rfl : k = 0 := by omega
      rw [e]; rfl
    · rw [if_neg e] at h
      by_cases e2 : idxG v r < 0
      · rw [if_pos e2] at h; omega
      · rw [if_neg e2] at h
        obtain ⟨j, rfl⟩ : ∃ j, k = j + 1 := ⟨k - 1, by omega⟩
        exact ih (by omega)
theorem dropL_at {α : Type} {l : List α} {k : Nat} {z : α} (h : l[k]? = some z) : l.drop k = z :: l.drop (k + 1) := by
  obtain ⟨h1, e⟩ := List.getElem?_eq_some_iff.1 h
  rw [List.drop_eq_getElem_cons h1, e]
theorem IndexS_any (va : Value) (xs : List (List UInt8)) (v : List UInt8) (w : World) (ha : RS w va xs) (hl : xs.length ≤ 100000) :
    Calls Tryz.prog 46 #[va, strV v] w fun e w' => e = .returned (.int .i64 (idxG v xs)) ∧ w = w' := by
  obtain ⟨A, c, rfl, hlc, hcell⟩ := ha.open_
  have HA := Lib.hid hcell
  clear hcell ha
  obtain ⟨V, hV⟩ : ∃ V, V = ByteArray.mk v.toArray := ⟨_, rfl⟩
  have hVl : V.toList = v := by rw [hV]; exact ByteArray.toList_mk v
  have hVs : strV v = .string V := by rw [hV]; rfl
  have HVl := Lib.hid hVl
  rw [hVs]
  clear hV hVl hVs
  go_enter Tryz.func46, Tryz.ntmps46
  go_wp2
  go_loop [8] (fun i => ∃ k : Nat, k ≤ xs.length ∧ i = .int .i64 k ∧ Hid (idxG v xs = if idxG v (xs.drop k) < 0 then -1 else idxG v (xs.drop k) + k)) (fun i => xs.length - (intOf i).toNat)
  case atStart => exact ⟨0, Nat.zero_le _, rfl, by show _ = _; have := idxG_lo v xs; simp only [List.drop_zero]; split <;> omega⟩
  case round =>
    obtain ⟨k, hk, rfl, he⟩ := hrel
    by_cases hlt : k < xs.length
    · obtain ⟨ad, rfl, _, hcl⟩ := HA.out k hlt
      have hx : xs[k]? = some (xs.getD k []) := by rw [List.getD_eq_getElem?_getD, List.getElem?_eq_getElem hlt]; rfl
      have HDr := Lib.hid (dropL_at hx)
      have h := he.out
      rw [HDr.out] at h
      generalize xs.getD k [] = z at *
      obtain ⟨Z, hZ⟩ : ∃ Z, Z = ByteArray.mk z.toArray := ⟨_, rfl⟩
      have hZl : Z.toList = z := by rw [hZ]; exact ByteArray.toList_mk z
      have hZs : strV z = .string Z := by rw [hZ]; rfl
      rw [hZs] at hcl
      clear HA hZ hZs hx
      by_cases hb : v = z
      · simp only [idxG, hb, if_true] at h
        have HR : Hid ((k : Int) = idxG v xs) := by show _ = _; rw [hb, h]; simp
        have t1 : (V.toList == Z.toList) = true := by rw [HVl.out, hZl, hb]; simp
        clear h hb hZl he
        go_wp2
        go_ret
        exact ⟨ret_i HR.out, rfl⟩
      · simp only [idxG, hb, if_false] at h
        have hlo := idxG_lo v (xs.drop (k + 1))
        have HN : Hid (idxG v xs = if idxG v (xs.drop (k + 1)) < 0 then -1 else idxG v (xs.drop (k + 1)) + (k + 1 : Nat)) := by
          show _ = _
          rw [h]
          by_cases c1 : idxG v (xs.drop (k + 1)) < 0
          · simp [c1]
          · rw [if_neg c1, if_neg c1, if_neg (by omega)]; push_cast; omega
        have t1 : (V.toList == Z.toList) = false := by rw [HVl.out, hZl]; simpa using hb
        clear h hlo hb hZl he
        go_wp2
        go_round
        case rel => exact ⟨k + 1, by omega, by go_num, HN.out⟩
        case measure => simp [intOf]; omega
    · have h := he.out
      rw [List.drop_of_length_le (by omega)] at h
      have HR : Hid ((-1 : Int) = idxG v xs) := by show _ = _; rw [h]; simp [idxG]
      clear h he
      go_wp2
      go_ret
      exact ⟨ret_i HR.out, rfl⟩
/-- The words of the kinds. -/
def kwL : List (List UInt8) := [[101, 113, 117, 105, 118, 97, 108, 101, 110, 116], [119, 105, 110, 110, 97, 98, 108, 101], [117, 110, 119, 105, 110, 110, 97, 98, 108, 101], [114, 97, 110, 107, 108, 101, 97, 115, 116], [114, 97, 110, 107, 109, 111, 115, 116], [115, 117, 112, 101, 114, 115, 116, 97, 98, 108, 101], [114, 101, 99, 117, 114, 114, 101, 110, 116], [115, 116, 97, 98, 105, 108, 105, 122, 101, 115], [103, 114, 111, 117, 112]]
def kq (i : Nat) : Bool := i == 5 || i == 6 || i == 7
def kn (i : Nat) : Bool := i == 3 || i == 4
def ka (i : Nat) : Bool := i != 8
def kb (i : Nat) : Bool := i == 0 || i == 7
def kf (i : Nat) : Bool := i == 8
def kl (i : Nat) : Int := if i = 4 then -1 else 0
def kp (i : Nat) : Value := .func (.func (([63, 67, 69, 71, 72, 73, 75, 77, 78] : List Nat).getD i 0)) #[] #[]
def kc (i : Nat) : List Value := [strV (kwL.getD i []), .bool (kq i), .bool (kn i), .bool (ka i), .bool (kb i), .bool (kf i), .int .i64 (kl i), kp i]
def kindsL : List Value := (List.range 9).flatMap kc
theorem kinds_size : (Tryz.prog.info? 78).map (·.size) = some kindsL.toArray.size := by kernel_rfl
theorem kKinds_any (w : World) : Calls Tryz.prog 43 #[] w fun e w' => e = .returned (.agg kindsL.toArray) ∧ Below w.heap.size w w' := by
  go_enter Tryz.func43, Tryz.ntmps43
  go_wp2_with (refine wpList_store_row rfl 78 _ _ rfl w.heap.size kindsL.toArray rfl rfl _ _ (heap_alloc_new w _) kinds_size (by kernel_rfl) (by kernel_rfl) ?_; rw [World.setRow_alloc_new])
  refine bodyPost_ret (results_cell_row rfl _ _ w.heap.size 78 kindsL.toArray (0, 0) _ rfl (heap_alloc_new _ _) Tryz.underlying78 rfl kinds_size) rfl ?_
  exact ⟨rfl, below_alloc w _⟩
theorem kWord_any (b : Nat) (ad : Addr) (n c : Nat) (S : ByteArray) (s0 : List UInt8) (v1 v2 v3 v4 v5 v6 v7 : Value) (w : World) (hb : BL w b 36 [.slice (some ad) n c]) (hn : 0 < n) (h0 : w.cell? ad = some (strV s0)) :
    Calls Tryz.prog 45 #[.agg #[.string S, v1, v2, v3, v4, v5, v6, v7], .pointer (some ⟨b, 0, none⟩)] w fun e w' => e = .returned (.bool (decide (S.toList = s0))) ∧ Below w.heap.size w w' := by
  obtain ⟨W0, hW0⟩ : ∃ W0, W0 = w.alloc (.cells #[.string S, v1, v2, v3, v4, v5, v6, v7] 77) := ⟨_, rfl⟩
  have hb0 : Below w.heap.size w W0 := by rw [hW0]; exact below_alloc w _
  have hK : BL W0 w.heap.size 77 [.string S, v1, v2, v3, v4, v5, v6, v7] := by rw [hW0]; exact BL.new' w _ _
  have k0 := hK.cell 0
  have c0 := (hb.bel hb0).cell 0
  have d0 := (hb0.cell (World.block_lt_of_cell? _ _ h0)).trans h0
  have hn1 : (0 : Int) < (n : Int) := by omega
  obtain ⟨Z, hZ⟩ : ∃ Z, Z = ByteArray.mk s0.toArray := ⟨_, rfl⟩
  have hZl : Z.toList = s0 := by rw [hZ]; exact ByteArray.toList_mk s0
  have hZs : strV s0 = .string Z := by rw [hZ]; rfl
  rw [hZs] at d0
  have HR : Hid (decide (S.toList = s0) = (S.toList == Z.toList)) := by
    show _ = _
    rw [hZl]; by_cases h : S.toList = s0 <;> simp [h]
  have HW0 := Lib.hid hW0
  have HB0 := Lib.hid hb0
  clear hZ hZl hZs hb hb0 hK hW0 h0
  go_enter Tryz.func45, Tryz.ntmps45
  go_wp2_with fail
  rw [← HW0.out]
  go_quiet (fail)
  have HBq := Lib.hid (below_drewN HB0.out nq)
  go_wp2
  go_ret
  exact ⟨ret_b HR.out.symm, HBq.out⟩
end Go.Proofs.YtgcnijmmjlfabaaGreatDoor

