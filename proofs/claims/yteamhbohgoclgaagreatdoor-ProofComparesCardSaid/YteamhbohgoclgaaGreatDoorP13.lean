/- Contracts of the references' text, Minus, Turned.
   Contracts of the references' Minus, Turned, Plus, Less, Times, Order on decimal texts.
   Words as numbers, in plain Lean: what is canonical, what it is worth, what the library's Atoi says of it. No program in sight.
   The text of an int: its digits, and what reading them gives (plain).
   Decimal texts: the canonical text is one alone, also of a negative number (plain).
   Contracts of the references of layers 8 and 17: what checks graphs and divisors.
   Contracts of the reference of layer 8: Check, Ends, Size, Few. -/
import Derived.Test.YteamhbohgoclgaaGreatDoorP12
import Derived.Lib.AtoiAllCases
import Derived.Lib.ItoaLen
import Derived.Lib.ParseIntBMem
import Derived.Lib.SlTrimSet
set_option maxRecDepth 100000
set_option maxHeartbeats 16000000
namespace Go.Proofs.YteamhbohgoclgaaGreatDoor
open Go.RowKit Go.Shelf

theorem chrs_succ {l : List Int} {i : Nat} {d : Int} (h : l[i]? = some d) : chrs (l.take (i + 1)) = UInt8.ofNat (48 + d).toNat :: chrs (l.take i) := by
  unfold chrs
  rw [List.take_add_one, h]
  simp
theorem zText_any (va : Value) (l : List Int) (m : Bool) (w : World) (ha : RI w va l) (hd : Dig l) (hl : l.length ≤ 1000) :
    Calls Tryz.prog 139 #[va, .bool m] w fun e w' => e = .returned (.string ⟨(textL l m).toArray⟩) ∧ Below w.heap.size w w' := by
  obtain ⟨A, c, rfl, -, -, hcell⟩ := ha.open_
  have HC := Hd hcell
  have HD := Hd hd
  clear ha hd hcell
  by_cases h0 : l = []
  · subst h0
    go_enter Tryz.func139, Tryz.ntmps139
    go_wp2
    go_ret
    exact ⟨rfl, Below.refl _ _⟩
  · have hlen : 1 ≤ l.length := List.length_pos_iff.2 h0
    have hne : ((l.length : Int) == 0) = false := by rw [beq_eq_false_iff_ne]; omega
    have H0 := Hd h0
    clear h0
    go_enter Tryz.func139, Tryz.ntmps139
    go_wp2_with fail
    go_loopw [5, 6] (fun s ii wr => ∃ i : Nat, s = .string ⟨(chrs (l.take i)).toArray⟩ ∧ ii = .int .i64 (i : Int) ∧ i ≤ l.length ∧ Hid (Below w.heap.size w wr)) (fun _ i _ => l.length - (intOf i).toNat)
    case atStart => exact ⟨0, rfl, rfl, Nat.zero_le _, Below.refl _ _⟩
    case round =>
      obtain ⟨i, rfl, rfl, hi, hb⟩ := hrel
      by_cases hlt : i < l.length
      · obtain ⟨ad, d, rfl, hadb, hx, hcl⟩ := HC.out i hlt
        have hcw := (hb.out.cell (by rw [block_of_add]; exact hadb)).trans hcl
        have hd9 := HD.out i
        rw [getD_of hx.out] at hd9
        have hcs := chrs_succ hx.out
        have HCs := Hd hcs
        have hw8 : IntKind.u8.wrap (48 + d) = 48 + d := by simp (disch := omega) only [IntWalk.u8_in]
        have hcv := run_convert_bytes_back (P := Tryz.prog) (wr.alloc (.cells #[.int .u8 (48 + d)] 5)) 130 9 5 ⟨wr.heap.size, 0, none⟩ 1 [UInt8.ofNat (48 + d).toNat] Tryz.underlying130 Tryz.underlying5 Tryz.underlying9 (fun j hj => by
          simp only [List.length_singleton] at hj
          obtain rfl : j = 0 := by omega
          have e : ((UInt8.ofNat (48 + d).toNat).toNat : Int) = 48 + d := by rw [chr_nat hd9.1 hd9.2]; omega
          have hc1 := (show BL (wr.alloc (.cells #[.int .u8 (48 + d)] 5)) wr.heap.size 5 [.int .u8 (48 + d)] from BL.new' wr _ _).cell 0
          rw [show ((⟨wr.heap.size, 0, none⟩ : Addr).add 0) = ⟨wr.heap.size, 0, none⟩ from rfl, hc1]
          show some (Value.int .u8 (48 + d)) = some (.int .u8 ((UInt8.ofNat (48 + d).toNat).toNat : Int))
          rw [e])
        have hsl : (chrs (l.take i)).length ≤ 1000 := by unfold chrs; simp; omega
        have hadd := fun W => run_string_add_lists (P := Tryz.prog) W [UInt8.ofNat (48 + d).toNat] (chrs (l.take i)) (by simp) (by omega)
        simp only [List.length_singleton] at hcv
        rw [← List.singleton_append] at hcs
        rw [← hcs] at hadd
        have hba := below_alloc wr (.cells #[.int .u8 (48 + d)] 5)
        have HB2 := Hd (hb.out.trans (hba.mono hb.out.size))
        have HS2 : Hid (ByteArray.mk (chrs (l.take (i + 1))).toArray = ByteArray.mk (chrs (l.take (i + 1))).toArray) := rfl
        clear hcl hcs hsl hba HCs
        generalize ByteArray.mk (chrs (l.take i)).toArray = S1 at *
        generalize hs2 : ByteArray.mk (chrs (l.take (i + 1))).toArray = S2 at *
        generalize ByteArray.mk [UInt8.ofNat (48 + d).toNat].toArray = B1 at *
        have HS3 := Hd hs2
        clear hs2 HS2
        go_wp2
        go_roundw
        case rel => exact ⟨i + 1, by rw [← HS3.out], by go_num, by omega, HB2.out⟩
        case measure => simp [intOf] <;> omega
      · obtain rfl : i = l.length := by omega
        have HT : Hid (textL l m = if m then 45 :: chrs l else chrs l) := by show _ = _; unfold textL; rw [if_neg H0.out]
        rw [List.take_of_length_le (Nat.le_refl _)]
        have hsl : (chrs l).length ≤ 1000 := by unfold chrs; simp; omega
        have hadd := fun W => run_string_add_lists (P := Tryz.prog) W [45] (chrs l) (by simp) (by omega)
        rw [List.singleton_append] at hadd
        clear hsl
        cases m
        · have HS1 : Hid (ByteArray.mk (textL l false).toArray = ByteArray.mk (chrs l).toArray) := by show _ = _; rw [HT.out, if_neg (by decide)]
          clear hadd HT
          generalize ByteArray.mk (chrs l).toArray = S1 at *
          go_wp2
          go_ret
          exact ⟨by rw [HS1.out]; rfl, hb.out⟩
        · have HS1 : Hid (ByteArray.mk (textL l true).toArray = ByteArray.mk (45 :: chrs l).toArray) := by show _ = _; rw [HT.out, if_pos rfl]
          have h45 : ByteArray.mk [45].toArray = ByteArray.mk #[45] := rfl
          rw [h45] at hadd
          clear HT h45
          generalize ByteArray.mk (chrs l).toArray = S1 at *
          generalize ByteArray.mk (45 :: chrs l).toArray = S2 at *
          go_wp2
          go_ret
          exact ⟨by rw [HS1.out]; rfl, hb.out⟩
open Go.RowKit Go.Shelf

theorem zs_text {l : List Int} {m : Bool} (hd : Dig l) (hc : Can l) : ZS (.string ⟨(textL l m).toArray⟩) (sgZ l m) := by
  by_cases e : l = []
  · subst e
    exact ⟨[], false, by simp [textL], hd, hc, fun _ => rfl, by cases m <;> simp [sgZ, dval]⟩
  · exact ⟨l, m, rfl, hd, hc, fun h => absurd h e, rfl⟩
open Go.RowKit Go.Shelf

def isDg (c : UInt8) : Bool := decide (48 ≤ c.toNat) && decide (c.toNat ≤ 57)
/-- A word without its minus. -/
def magW : List UInt8 → List UInt8
  | [] => []
  | c :: r => if c = 45 then r else c :: r
/-- Whether a word begins with a minus. -/
def minW : List UInt8 → Bool
  | [] => false
  | c :: _ => decide (c = 45)
/-- Whether a word is a canonical integer. -/
def canB (s : List UInt8) : Bool := decide (magW s ≠ []) && (magW s).all isDg && (decide ((magW s).getD 0 0 ≠ 48) || (decide (magW s = [48]) && !minW s))
def stepD (acc : Nat) (c : UInt8) : Nat := acc * 10 + (c.toNat - 48)
def decV (acc : Nat) (l : List UInt8) : Nat := l.foldl stepD acc
theorem decV_nil (acc : Nat) : decV acc [] = acc := rfl
theorem decV_cons (acc : Nat) (c : UInt8) (r : List UInt8) : decV acc (c :: r) = decV (acc * 10 + (c.toNat - 48)) r := by
  unfold decV
  rw [List.foldl_cons, stepD]
/-- What a word is worth. -/
def wv (s : List UInt8) : Int := if minW s then -((decV 0 (magW s) : Nat) : Int) else ((decV 0 (magW s) : Nat) : Int)
theorem decV_ge (l : List UInt8) : ∀ acc : Nat, acc ≤ decV acc l := by
  induction l with
  | nil => intro acc; rw [decV_nil]; exact Nat.le_refl _
  | cons c r ih =>
    intro acc
    rw [decV_cons]
    exact Nat.le_trans (Nat.le_trans (Nat.le_mul_of_pos_right acc (by decide)) (Nat.le_add_right _ _)) (ih (acc * 10 + (c.toNat - 48)))
theorem parse_dec (l : List UInt8) : ∀ acc : Nat, l.all isDg = true → acc < 18446744073709551616 → Go.Lib.parseUint10 acc l = if decV acc l < 18446744073709551616 then .ok (decV acc l) else .range := by
  induction l with
  | nil => intro acc _ ha; rw [decV_nil, if_pos ha]; rfl
  | cons c r ih =>
    intro acc hd ha
    rw [List.all_cons, Bool.and_eq_true] at hd
    obtain ⟨h1, h2⟩ := hd
    unfold isDg at h1
    simp only [Bool.and_eq_true, decide_eq_true_eq] at h1
    have h3 := decV_ge r (acc * 10 + (c.toNat - 48))
    have h4 := ih (acc * 10 + (c.toNat - 48)) h2
    rw [Go.Lib.parseUint10, if_pos h1, decV_cons]
    generalize decV (acc * 10 + (c.toNat - 48)) r = x at *
    by_cases c1 : 1844674407370955162 ≤ acc
    · rw [if_pos c1, if_neg (by omega)]
    · rw [if_neg c1]
      by_cases c2 : 18446744073709551616 ≤ acc * 10 + (c.toNat - 48)
      · rw [if_pos c2, if_neg (by omega)]
      · rw [if_neg c2, h4 (by omega)]
theorem canB_parts {s : List UInt8} (h : canB s = true) : magW s ≠ [] ∧ (magW s).all isDg = true ∧ ((magW s).getD 0 0 ≠ 48 ∨ (magW s = [48] ∧ minW s = false)) := by
  unfold canB at h
  simp only [Bool.and_eq_true, Bool.or_eq_true, Bool.not_eq_true', decide_eq_true_eq] at h
  exact ⟨h.1.1, h.1.2, h.2⟩
/-- The library's Atoi at a canonical word. -/
theorem atoi_can {s : List UInt8} (h : canB s = true) : Go.Lib.atoiAll s = if -9223372036854775808 ≤ wv s ∧ wv s ≤ 9223372036854775807 then .ok (wv s) else .range := by
  obtain ⟨h1, h2, -⟩ := canB_parts h
  have hp := parse_dec (magW s) 0 h2 (by omega)
  have hm : Go.Lib.parseMag (magW s) = if decV 0 (magW s) < 18446744073709551616 then .ok (decV 0 (magW s)) else .range := by
    unfold Go.Lib.parseMag; rw [if_neg h1]; exact hp
  cases s with
  | nil => exact absurd rfl h1
  | cons c r =>
    by_cases hc : c = 45
    · subst hc
      have e1 : magW (45 :: r) = r := by simp [magW]
      have e2 : minW (45 :: r) = true := rfl
      have e3 : wv (45 :: r) = -((decV 0 r : Nat) : Int) := by unfold wv; rw [e1, e2]; rfl
      rw [e1] at hm
      rw [Go.Lib.atoiAll_minus, hm, e3]
      generalize decV 0 r = n at *
      by_cases c1 : n < 18446744073709551616
      · rw [if_pos c1]
        by_cases c2 : 9223372036854775808 < n
        · rw [if_neg (by omega)]; show (if _ then _ else _) = _; rw [if_pos c2]
        · rw [if_pos (by omega)]; show (if _ then _ else _) = _; rw [if_neg c2]
      · rw [if_neg c1, if_neg (by omega)]; rfl
    · have e1 : magW (c :: r) = c :: r := by simp [magW, hc]
      have e2 : minW (c :: r) = false := decide_eq_false hc
      have e3 : wv (c :: r) = ((decV 0 (c :: r) : Nat) : Int) := by unfold wv; rw [e1, e2]; rfl
      rw [e1] at hm h2
      have hcd : 48 ≤ c.toNat := by
        rw [List.all_cons, Bool.and_eq_true] at h2
        have := h2.1
        unfold isDg at this
        simp only [Bool.and_eq_true, decide_eq_true_eq] at this
        exact this.1
      rw [Go.Lib.atoiAll_plain c r (by omega) (by omega), hm, e3]
      generalize decV 0 (c :: r) = n at *
      by_cases c1 : n < 18446744073709551616
      · rw [if_pos c1]
        by_cases c2 : 9223372036854775808 ≤ n
        · rw [if_neg (by omega)]; show (if _ then _ else _) = _; rw [if_pos c2]
        · rw [if_pos (by omega)]; show (if _ then _ else _) = _; rw [if_neg c2]
      · rw [if_neg c1, if_neg (by omega)]; rfl
/-- The digits of a word, the last one first. -/
def dgsW (d : List UInt8) : List Int := d.reverse.map fun c => (c.toNat : Int) - 48
theorem dgsW_cons (c : UInt8) (r : List UInt8) : dgsW (c :: r) = dgsW r ++ [(c.toNat : Int) - 48] := by simp [dgsW]
theorem dgsW_len (d : List UInt8) : (dgsW d).length = d.length := by simp [dgsW]
theorem dgsW_dig : ∀ {d : List UInt8}, d.all isDg = true → Dig (dgsW d)
  | [], _ => fun k => by simp [dgsW]
  | c :: r, h => by
    rw [List.all_cons, Bool.and_eq_true] at h
    have h1 := h.1
    unfold isDg at h1
    simp only [Bool.and_eq_true, decide_eq_true_eq] at h1
    rw [dgsW_cons]
    exact (dgsW_dig h.2).snoc (by omega) (by omega)
theorem decV_dval (d : List UInt8) : ∀ acc : Nat, d.all isDg = true → ((decV acc d : Nat) : Int) = (acc : Int) * p10 d.length + dval (dgsW d) := by
  induction d with
  | nil => intro acc _; simp [decV_nil, dgsW, dval, p10]
  | cons c r ih =>
    intro acc h
    rw [List.all_cons, Bool.and_eq_true] at h
    have h1 := h.1
    unfold isDg at h1
    simp only [Bool.and_eq_true, decide_eq_true_eq] at h1
    rw [decV_cons, ih _ h.2, dgsW_cons, dval_snoc, dgsW_len, List.length_cons, p10]
    have e : ((acc * 10 + (c.toNat - 48) : Nat) : Int) = (acc : Int) * 10 + ((c.toNat : Int) - 48) := by omega
    rw [e]
    grind
theorem chrs_dgsW {d : List UInt8} (h : d.all isDg = true) : chrs (dgsW d) = d := by
  unfold chrs dgsW
  rw [← List.map_reverse, List.reverse_reverse, List.map_map]
  conv => rhs; rw [← List.map_id d]
  refine List.map_congr_left fun c hc => ?_
  have h1 := List.all_eq_true.1 h c hc
  unfold isDg at h1
  simp only [Bool.and_eq_true, decide_eq_true_eq] at h1
  show UInt8.ofNat (48 + ((c.toNat : Int) - 48)).toNat = c
  rw [show (48 + ((c.toNat : Int) - 48)).toNat = c.toNat by omega]
  exact UInt8.ofNat_toNat
/-- A canonical word is the text of what it is worth. -/
theorem can_text {s : List UInt8} (h : canB s = true) : ∃ (l : List Int) (m : Bool), textL l m = s ∧ Dig l ∧ Can l ∧ (l = [] → m = false) ∧ wv s = sgZ l m ∧ l.length ≤ (magW s).length ∧ (l ≠ [] → l.length = (magW s).length) := by
  obtain ⟨h1, h2, h3⟩ := canB_parts h
  have hv := decV_dval (magW s) 0 h2
  rw [Int.natCast_zero, Int.zero_mul, Int.zero_add] at hv
  by_cases h0 : magW s = [48]
  · have hm : minW s = false := by
      rcases h3 with h3 | h3
      · rw [h0] at h3; exact absurd rfl h3
      · exact h3.2
    have hs : s = [48] := by
      cases s with
      | nil => exact absurd rfl h1
      | cons c r =>
        have hc : c ≠ 45 := of_decide_eq_false hm
        rw [show magW (c :: r) = c :: r by simp [magW, hc]] at h0; exact h0
    subst hs
    exact ⟨[], false, rfl, dig_nil, .inl rfl, fun _ => rfl, by decide, by simp, fun h => absurd rfl h⟩
  · have hne : dgsW (magW s) ≠ [] := by
      intro e
      have := congrArg List.length e
      rw [dgsW_len] at this
      exact h1 (List.eq_nil_of_length_eq_zero this)
    have hhd : (magW s).getD 0 0 ≠ 48 := by
      rcases h3 with h3 | h3
      · exact h3
      · exact absurd h3.1 h0
    refine ⟨dgsW (magW s), minW s, ?_, dgsW_dig h2, .inr ?_, fun e => absurd e hne, ?_, by rw [dgsW_len]; exact Nat.le_refl _, fun _ => dgsW_len _⟩
    · unfold textL
      rw [if_neg hne, chrs_dgsW h2]
      cases s with
      | nil => exact absurd rfl h1
      | cons c r =>
        by_cases hc : c = 45
        · subst hc; rfl
        · rw [show magW (c :: r) = c :: r by simp [magW, hc], show minW (c :: r) = false from decide_eq_false hc]; rfl
    · cases hm : magW s with
      | nil => exact absurd hm h1
      | cons c r =>
        rw [hm] at hhd h2
        rw [dgsW_cons, List.length_append, List.length_singleton, Nat.add_sub_cancel, List.getD_eq_getElem?_getD, List.getElem?_append_right (Nat.le_refl _), Nat.sub_self]
        have hc : c ≠ 48 := hhd
        have : c.toNat ≠ 48 := fun e => hc (UInt8.toNat_inj.1 e)
        show (c.toNat : Int) - 48 ≠ 0
        omega
    · unfold wv sgZ; rw [hv]
/-- A word of many digits is worth much. -/
theorem can_long {s : List UInt8} (h : canB s = true) {k : Nat} (hk : k < (magW s).length) (hk1 : 1 ≤ k) : wv s ≤ -p10 k ∨ p10 k ≤ wv s := by
  obtain ⟨l, m, -, hd, hc, -, hw, hl, hl2⟩ := can_text h
  by_cases e : l = []
  · have h0 : magW s ≠ [48] := fun e => by rw [e] at hk; simp at hk; omega
    obtain ⟨-, h2, h3⟩ := canB_parts h
    rcases h3 with h3 | h3
    · exfalso
      have hv := decV_dval (magW s) 0 h2
      rw [Int.natCast_zero, Int.zero_mul, Int.zero_add] at hv
      have hw0 : wv s = 0 := by rw [hw, e]; unfold sgZ; split <;> rfl
      have hd0 : dval (dgsW (magW s)) = 0 := by
        have := hw0
        unfold wv at this
        rw [hv] at this
        split at this <;> omega
      cases hm : magW s with
      | nil => rw [hm] at hk; simp at hk
      | cons c r =>
        rw [hm] at hd0 h2 h3
        have hr : (r.all isDg) = true := by rw [List.all_cons, Bool.and_eq_true] at h2; exact h2.2
        rw [dgsW_cons, dval_snoc] at hd0
        have h4 := (dval_bd (dgsW_dig hr)).1
        have h5 : c.toNat ≠ 48 := fun e => h3 (UInt8.toNat_inj.1 e)
        have h6 : 48 ≤ c.toNat := by
          rw [List.all_cons, Bool.and_eq_true] at h2
          have := h2.1
          unfold isDg at this
          simp only [Bool.and_eq_true, decide_eq_true_eq] at this
          exact this.1
        have h7 := p10_pos (dgsW r).length
        have h8 := Int.mul_le_mul_of_nonneg_left (show (1 : Int) ≤ (c.toNat : Int) - 48 by omega) (show 0 ≤ p10 (dgsW r).length by omega)
        omega
    · exact absurd h3.1 h0
  · have h1 := can_ge hd hc e
    have h2 := p10_mono (a := k) (b := l.length - 1) (by rw [hl2 e]; omega)
    rw [hw]
    unfold sgZ
    cases m
    · rw [if_neg (by simp)]; omega
    · rw [if_pos rfl]; omega
theorem p10_19 : (9223372036854775808 : Int) ≤ p10 1024 := Int.le_trans (by decide : (9223372036854775808 : Int) ≤ p10 19) (p10_mono (by omega))
/-- What the numbers of words are worth; the number of the error. -/
def numsV (ws : List (List UInt8)) : List Int := ws.map wv
def numsE (ws : List (List UInt8)) : Int := if ws.all canB = false then 4 else if ws.all (fun s => decide (-1048576 ≤ wv s) && decide (wv s ≤ 1048576)) = false then 2 else 0

theorem dec_zero : Go.Lib.decDigits 0 = [48] := by rw [Go.Lib.decDigits, dif_pos (by omega)]; rfl
/-- The text of an int. -/
def zV (z : Int) : Value := .string ⟨(Go.Lib.itoa z).toArray⟩
theorem itoa_parts (z : Int) : Go.Lib.itoa z = if z < 0 then 45 :: Go.Lib.decDigits z.natAbs else Go.Lib.decDigits z.natAbs := by
  unfold Go.Lib.itoa
  split
  · rfl
  · rw [show z.toNat = z.natAbs by omega]
open Go.RowKit Go.Shelf

theorem decP_big {u : Nat} (h : ¬ u < 10) : Go.Lib.decDigits u = Go.Lib.decDigits (u / 10) ++ [UInt8.ofNat (48 + u % 10)] := by rw [Go.Lib.decDigits, dif_neg h]
theorem decP_low {u : Nat} (h : u < 10) : Go.Lib.decDigits u = [UInt8.ofNat (48 + u)] := by rw [Go.Lib.decDigits, dif_pos h]
theorem canP_one {l : List Int} (h : Dig l) (hc : Can l) (hl : l ≠ []) : 1 ≤ dval l := by
  have := can_ge h hc hl
  have := p10_pos (l.length - 1)
  omega
theorem canP_tail {d : Int} {r : List Int} (hc : Can (d :: r)) (hr : r ≠ []) : Can r := by
  rcases hc with h | h
  · cases h
  · refine .inr ?_
    cases r with
    | nil => exact absurd rfl hr
    | cons e r => simpa using h
theorem chrsP_dec : ∀ l : List Int, Dig l → Can l → l ≠ [] → chrs l = Go.Lib.decDigits (dval l).toNat := by
  intro l
  induction l with
  | nil => intro _ _ h; exact absurd rfl h
  | cons d r ih =>
    intro hd hc _
    obtain ⟨⟨h0, h9⟩, hr⟩ := hd.tail
    by_cases e : r = []
    · subst e
      rw [show dval [d] = d by simp [dval], decP_low (by omega)]
      show [UInt8.ofNat (48 + d).toNat] = _
      rw [show (48 + d).toNat = 48 + d.toNat by omega]
    · have hcr := canP_tail hc e
      have h1 := canP_one hr hcr e
      have hv : dval (d :: r) = d + 10 * dval r := rfl
      rw [decP_big (by omega), show (dval (d :: r)).toNat / 10 = (dval r).toNat by omega, show (dval (d :: r)).toNat % 10 = d.toNat by omega, ← ih hr hcr e]
      unfold chrs
      rw [List.reverse_cons, List.map_append, show (48 + d.toNat) = (48 + d).toNat by omega]
      rfl
/-- The canonical text is one alone. -/
theorem text_itoa {l : List Int} {m : Bool} (hd : Dig l) (hc : Can l) (hm : l = [] → m = false) : textL l m = Go.Lib.itoa (sgZ l m) := by
  by_cases e : l = []
  · subst e
    rw [hm rfl]
    unfold textL
    rw [if_pos rfl, itoa_parts, show sgZ [] false = 0 from rfl, if_neg (by omega), show (0 : Int).natAbs = 0 from rfl, dec_zero]
  · have h1 := canP_one hd hc e
    unfold textL
    rw [if_neg e]
    cases m with
    | true => rw [if_pos rfl, itoa_parts, show sgZ l true = - dval l from rfl, if_pos (by omega), chrsP_dec l hd hc e, show (- dval l).natAbs = (dval l).toNat by omega]
    | false => rw [if_neg (by simp), itoa_parts, show sgZ l false = dval l from rfl, if_neg (by omega), chrsP_dec l hd hc e, show (dval l).natAbs = (dval l).toNat by omega]
theorem zsP_zv {v : Value} {z : Int} (h : ZS v z) : v = zV z := by
  obtain ⟨l, m, rfl, hd, hc, hm, rfl⟩ := h
  unfold zV
  rw [text_itoa hd hc hm]
open Go.RowKit Go.Shelf

theorem In_any (k : Int) (w : World) : Calls Tryz.prog 101 #[.int .i64 k] w fun e w' => e = .returned (.bool (InB k)) ∧ w = w' := by
  go_enter Tryz.func101, Tryz.ntmps101
  go_wp2
  all_goals (go_ret; exact ⟨by simp [InB, *]; try omega, rfl⟩)

theorem rCheck_any (v : Value) (zs : List Int) (n : Int) (w : World) (hv : RI w v zs) :
    Calls Tryz.prog 69 #[v, .int .i64 n] w fun e w' => e = .returned (.int .i64 (checkE zs n)) ∧ w = w' := by
  obtain ⟨A, c, rfl, hlc, hc, hcell⟩ := hv.open_
  have HC := Hd hcell
  clear hcell hv
  by_cases h1 : n < 1
  · go_enter Tryz.func69, Tryz.ntmps69
    go_wp2
    go_ret
    exact ⟨ret_i (by simp [checkE, h1]), rfl⟩
  by_cases h1' : 12 < n
  · go_enter Tryz.func69, Tryz.ntmps69
    go_wp2
    go_ret
    exact ⟨ret_i (by simp [checkE, h1']), rfl⟩
  have H1 := Hd (show ¬ (n < 1 ∨ 12 < n) by omega)
  by_cases h2 : (zs.length : Int) = n
  · have e2 : ((zs.length : Int) != n) = false := by simp [h2]
    have H2 := Hd h2
    have h2' : (zs.length : Int) ≤ n ∧ n ≤ zs.length := by omega
    clear h2
    go_enter Tryz.func69, Tryz.ntmps69
    go_wp2
    go_loop [5] (fun i => ∃ k : Nat, k ≤ zs.length ∧ i = .int .i64 k ∧ Hid ((zs.drop k).all InB = zs.all InB)) (fun i => zs.length - (intOf i).toNat)
    case atStart => exact ⟨0, Nat.zero_le _, rfl, rfl⟩
    case round =>
      obtain ⟨k, hk, rfl, hr⟩ := hrel
      by_cases hlt : k < zs.length
      · obtain ⟨ad, z, rfl, _, hz, hcl⟩ := HC.out k hlt
        clear HC
        have hd := Hd (drop_at hz)
        have hlt2 : (k : Int) < n := by omega
        cases hb : InB z
        · go_wp2_with (go_at_call 101; refine (In_any _ _).mono ?_; rintro e w' ⟨rfl, rfl⟩)
          go_ret
          refine ⟨ret_i ?_, rfl⟩
          have := hr.out; rw [hd.out] at this
          simp only [checkE, if_neg H1.out, H2.out, ← this]
          simp [hb]
        · go_wp2_with (go_at_call 101; refine (In_any _ _).mono ?_; rintro e w' ⟨rfl, rfl⟩)
          go_round
          case rel => exact ⟨k + 1, by omega, by go_num, by have := hr.out; rw [hd.out] at this; simpa [Hid, hb] using this⟩
          case measure => simp [intOf]; omega
      · have hlt2 : n ≤ (k : Int) := by omega
        go_wp2
        go_ret
        refine ⟨ret_i ?_, rfl⟩
        have := hr.out; rw [List.drop_of_length_le (by omega)] at this
        simp only [checkE, if_neg H1.out, H2.out, ← this]
        simp
  · have e2 : ((zs.length : Int) != n) = true := by simp [h2]
    have H2 := Hd h2
    clear h2
    go_enter Tryz.func69, Tryz.ntmps69
    go_wp2
    go_ret
    exact ⟨ret_i (by simp [checkE, H1.out, H2.out]), rfl⟩

theorem rVertex_any (g : Value) (n : Int) (es : List Tri) (v : Int) (w : World) (hg : GV w g n es) :
    Calls Tryz.prog 68 #[g, .int .i64 v] w fun e w' => e = .returned (.bool (vtxB n v)) ∧ Below w.heap.size w w' := by
  obtain ⟨A, c, rfl, -⟩ := hg.open_
  clear hg
  by_cases h1 : 0 ≤ v
  · by_cases h2 : v < n
    · go_enter Tryz.func68, Tryz.ntmps68
      go_wp2
      go_ret
      exact ⟨ret_b (by simp [vtxB, h1, h2]), below_alloc w _⟩
    · go_enter Tryz.func68, Tryz.ntmps68
      go_wp2
      go_ret
      exact ⟨ret_b (by simp [vtxB, h2]), below_alloc w _⟩
  · go_enter Tryz.func68, Tryz.ntmps68
    go_wp2
    go_ret
    exact ⟨ret_b (by simp [vtxB]; omega), below_alloc w _⟩
/-- The edge ahead of one. -/
def lastE (es : List Tri) : Nat → Int × Int
  | 0 => (-1, -1)
  | j + 1 => ((es.getD j (0, 0, 0)).1, (es.getD j (0, 0, 0)).2.1)
theorem okE_back {n la lb a b m : Int} (h1 : vtxB n a = true) (h2 : vtxB n b = true) (h3 : ¬ m < 1) (h4 : ¬ 50 < m) (h5 : a ≤ b) : okE n (la, lb) (a, b, m) = if a < la ∨ (a = la ∧ b ≤ lb) then 9 else 0 := by
  rw [vtxB_iff] at h1 h2
  unfold okE
  simp only
  rw [if_neg (by omega)]
  by_cases h : a < la ∨ (a = la ∧ b ≤ lb)
  · rw [if_pos (.inr h), if_pos h]
  · rw [if_neg (by omega), if_neg h]
theorem okE_cross {n la lb a b m : Int} (h1 : vtxB n a = true) (h2 : vtxB n b = true) (h3 : ¬ m < 1) (h4 : ¬ 50 < m) (h5 : b < a) : okE n (la, lb) (a, b, m) = 9 := by
  rw [vtxB_iff] at h1 h2
  unfold okE
  simp only
  rw [if_neg (by omega), if_pos (.inl h5)]
theorem edge_any (g : Value) (n : Int) (es : List Tri) (k : Nat) (t : Tri) (w : World) (hg : GV w g n es) (ht : es[k]? = some t) :
    Calls Tryz.prog 90 #[g, .int .i64 (k : Int)] w fun e w' => e = .returned (.int .i64 (okE n (lastE es k) t)) ∧ Below w.heap.size w w' := by
  obtain ⟨A, c, rfl, hlc, hc, hcell⟩ := hg.open_
  have hk : k < es.length := by
    by_cases h : k < es.length
    · exact h
    · rw [List.getElem?_eq_none (by omega)] at ht; cases ht
  obtain ⟨ad, a, b, m, rfl, hab, ht', c1, c2, c3⟩ := hcell k hk
  obtain rfl : (a, b, m) = t := Option.some.inj (ht'.out.symm.trans ht)
  obtain ⟨W0, hW0⟩ : ∃ W0, W0 = w.alloc (.cells #[.int .i64 n, .slice (some ad) es.length c] 25) := ⟨_, rfl⟩
  have hb0 : Below w.heap.size w W0 := by rw [hW0]; exact below_alloc w _
  have hz0 : W0.heap.size = w.heap.size + 1 := by rw [hW0]; simp
  have hx0 : BL W0 w.heap.size 25 [.int .i64 n, .slice (some ad) es.length c] := by rw [hW0]; exact BL.new' w _ _
  obtain ⟨d1, d2, d3⟩ := tri_cells hb0 hab c1 c2 c3
  obtain ⟨W1, hW1⟩ : ∃ W1, W1 = W0.alloc (.cells #[.int .i64 a, .int .i64 b, .int .i64 m] 68) := ⟨_, rfl⟩
  have hb1 : Below W0.heap.size W0 W1 := by rw [hW1]; exact below_alloc W0 _
  have hx1 : BL W1 (w.heap.size + 1) 68 [.int .i64 a, .int .i64 b, .int .i64 m] := by rw [hW1, ← hz0]; exact BL.new' W0 _ _
  have hbb : Below w.heap.size w W1 := hb0.trans (hb1.mono (by omega))
  have HG1 := Hd (hg.below hbb)
  have HX1 := Hd (hx0.bel hb1)
  have HY1 := Hd hx1
  have HBB := Hd hbb
  have HV1 := Hd (rVertex_any _ n es a W1 HG1.out)
  have x0 := hx0.cell 0
  have x1 := hx0.cell 1
  have y0 := HX1.out.cell 0
  have y1 := HX1.out.cell 1
  have z0 := hx1.cell 0
  have z1 := hx1.cell 1
  have z2 := hx1.cell 2
  have HW0 := Hd hW0
  have HW1 := Hd hW1
  have HCe := Hd hcell
  rw [hW0] at x0 x1 d1 d2 d3
  rw [hW1, hW0] at y0 y1 z0 z1 z2
  have hk1 : (k : Int) < es.length := by omega
  clear hg ht hcell ht' c1 c2 c3 hb0 hx0 hb1 hx1 hbb hW0 hW1 hz0
  go_enter Tryz.func90, Tryz.ntmps90
  go_wp2_with fail
  rw [← HW0.out, ← HW1.out]
  refine HV1.out.mono ?_
  rintro e w2 ⟨rfl, hb2⟩
  have HBB2 := Hd (HBB.out.trans (hb2.mono HBB.out.size))
  have HX2 := Hd (HX1.out.bel hb2)
  have HY2 := Hd (HY1.out.bel hb2)
  have HG2 := Hd (HG1.out.below hb2)
  have q0 := HX2.out.cell 0
  have q1 := HX2.out.cell 1
  have r0 := HY2.out.cell 0
  have r1 := HY2.out.cell 1
  have r2 := HY2.out.cell 2
  clear x0 x1 y0 y1 z0 z1 z2 d1 d2 d3 hb2
  cases hA : vtxB n a
  · have HR : Hid (okE n (lastE es k) (a, b, m) = 2) := okE_bad (.inl hA)
    go_wp2
    go_ret
    exact ⟨ret_i HR.out.symm, HBB2.out⟩
  have HV2 := Hd (rVertex_any _ n es b w2 HG2.out)
  go_wp2_with fail
  refine HV2.out.mono ?_
  rintro e w3 ⟨rfl, hb3⟩
  have HBB3 := Hd (HBB2.out.trans (hb3.mono HBB2.out.size))
  have HX3 := Hd (HX2.out.bel hb3)
  have HY3 := Hd (HY2.out.bel hb3)
  have HG3 := Hd (HG2.out.below hb3)
  have p0 := HX3.out.cell 0
  have p1 := HX3.out.cell 1
  have s0 := HY3.out.cell 0
  have s1 := HY3.out.cell 1
  have s2 := HY3.out.cell 2
  clear q0 q1 r0 r1 r2 hb3
  cases hB : vtxB n b
  · have HR : Hid (okE n (lastE es k) (a, b, m) = 2) := okE_bad (.inr (.inl hB))
    go_wp2
    go_ret
    exact ⟨ret_i HR.out.symm, HBB3.out⟩
  by_cases h1 : m < 1
  · have HR : Hid (okE n (lastE es k) (a, b, m) = 2) := okE_bad (.inr (.inr (.inl h1)))
    go_wp2
    go_ret
    exact ⟨ret_i HR.out.symm, HBB3.out⟩
  by_cases h2 : 50 < m
  · have HR : Hid (okE n (lastE es k) (a, b, m) = 2) := okE_bad (.inr (.inr (.inr h2)))
    go_wp2
    go_ret
    exact ⟨ret_i HR.out.symm, HBB3.out⟩
  by_cases h3 : b < a
  · have HR : Hid (okE n (lastE es k) (a, b, m) = 9) := okE_cross hA hB h1 h2 h3
    go_wp2
    go_ret
    exact ⟨ret_i HR.out.symm, HBB3.out⟩
  have HOk : Hid (∀ la lb, okE n (la, lb) (a, b, m) = if a < la ∨ (a = la ∧ b ≤ lb) then 9 else 0) := fun la lb => okE_back hA hB h1 h2 (by omega)
  cases k with
  | zero =>
    have HR : Hid (okE n (lastE es 0) (a, b, m) = 0) := by
      show _ = _
      rw [vtxB_iff] at hA
      show okE n (-1, -1) (a, b, m) = 0
      rw [HOk.out, if_neg (by omega)]
    simp only [Int.natCast_zero] at *
    go_wp2
    go_ret
    exact ⟨ret_i HR.out.symm, HBB3.out⟩
  | succ j =>
    obtain ⟨ad', la, lb, lm, he, -, ht', e1, e2, e3⟩ := HCe.out j (by omega)
    obtain rfl : ad = ad' := by simpa using he
    obtain ⟨d1, d2, d3⟩ := tri_cells HBB3.out hab e1 e2 e3
    have hL : lastE es (j + 1) = (la, lb) := by
      show ((es.getD j (0, 0, 0)).1, (es.getD j (0, 0, 0)).2.1) = _
      rw [List.getD_eq_getElem?_getD, ht'.out]; rfl
    have HR0 : Hid (okE n (lastE es (j + 1)) (a, b, m) = if a < la ∨ (a = la ∧ b ≤ lb) then 9 else 0) := by show _ = _; rw [hL, HOk.out]
    have hj0 : (0 : Int) ≤ (j : Int) := by omega
    have hj1 : (j : Int) < es.length := by omega
    have hj2 : (0 : Int) < (j : Int) + 1 := by omega
    have hj3 : IntKind.i64.wrap ((j : Int) + 1 - 1) = j := by rw [show (j : Int) + 1 - 1 = j by omega]; exact IntWalk.i64_in _ (by omega)
    have HB4 := Hd (HBB3.out.trans ((below_alloc w3 (.cells #[.int .i64 la, .int .i64 lb, .int .i64 lm] 68)).mono HBB3.out.size))
    have hbl : w.heap.size + 1 < w3.heap.size := HY3.out.lt
    have hab3 : ad.block < w3.heap.size := by have := HBB3.out.size; omega
    simp only [Int.natCast_succ] at *
    clear he ht' e1 e2 e3 hL hA hB hk hk1 hab
    by_cases g1 : a < la
    · have HR : Hid (okE n (lastE es (j + 1)) (a, b, m) = 9) := HR0.out.trans (if_pos (.inl g1))
      go_wp2
      go_ret
      exact ⟨ret_i HR.out.symm, HB4.out⟩
    · by_cases g2 : a = la
      · subst g2
        have t2 : (a == a) = true := by simp
        by_cases g3 : b ≤ lb
        · have HR : Hid (okE n (lastE es (j + 1)) (a, b, m) = 9) := HR0.out.trans (if_pos (.inr ⟨rfl, g3⟩))
          go_wp2
          go_ret
          exact ⟨ret_i HR.out.symm, HB4.out⟩
        · have HR : Hid (okE n (lastE es (j + 1)) (a, b, m) = 0) := HR0.out.trans (if_neg (by omega))
          go_wp2
          go_ret
          exact ⟨ret_i HR.out.symm, HB4.out⟩
      · have t2 : (a == la) = false := by simpa using g2
        have HR : Hid (okE n (lastE es (j + 1)) (a, b, m) = 0) := HR0.out.trans (if_neg (by omega))
        go_wp2
        go_ret
        exact ⟨ret_i HR.out.symm, HB4.out⟩
open Go.RowKit Go.Shelf

theorem lastE_succ {es : List Tri} {k : Nat} {t : Tri} (h : es[k]? = some t) : lastE es (k + 1) = (t.1, t.2.1) := by
  show ((es.getD k (0, 0, 0)).1, (es.getD k (0, 0, 0)).2.1) = _
  rw [List.getD_eq_getElem?_getD, h]; rfl
theorem rgCheck_any (g : Value) (n : Int) (es : List Tri) (w : World) (hg : GV w g n es) :
    Calls Tryz.prog 55 #[g] w fun e w' => e = .returned (.int .i64 (gcheckE n es)) ∧ Below w.heap.size w w' := by
  obtain ⟨A, c, rfl, hlc, hc, hcell⟩ := hg.open_
  obtain ⟨W0, hW0⟩ : ∃ W0, W0 = w.alloc (.cells #[.int .i64 n, .slice A es.length c] 25) := ⟨_, rfl⟩
  have hb0 : Below w.heap.size w W0 := by rw [hW0]; exact below_alloc w _
  have hx0 : BL W0 w.heap.size 25 [.int .i64 n, .slice A es.length c] := by rw [hW0]; exact BL.new' w _ _
  have HX0 := Hd hx0
  have HB0 := Hd hb0
  have HG := Hd hg
  have HW0 := Hd hW0
  have HCe := Hd hcell
  have x0 := hx0.cell 0
  have x1 := hx0.cell 1
  rw [hW0] at x0 x1
  clear hg hcell hb0 hx0 hW0
  by_cases h1 : n < 1
  · have HR : Hid (gcheckE n es = 2) := by show _ = _; unfold gcheckE; rw [if_pos (.inl h1)]
    go_enter Tryz.func55, Tryz.ntmps55
    go_wp2
    go_ret
    exact ⟨ret_i HR.out.symm, below_alloc w _⟩
  by_cases h2 : 12 < n
  · have HR : Hid (gcheckE n es = 2) := by show _ = _; unfold gcheckE; rw [if_pos (.inr h2)]
    go_enter Tryz.func55, Tryz.ntmps55
    go_wp2
    go_ret
    exact ⟨ret_i HR.out.symm, below_alloc w _⟩
  have HE := Hd (show gcheckE n es = gcheckL n (-1, -1) es by unfold gcheckE; rw [if_neg (by omega)])
  go_enter Tryz.func55, Tryz.ntmps55
  go_wp2_with fail
  rw [← HW0.out]
  clear x0 x1
  go_loopw [3] (fun i wr => ∃ k : Nat, k ≤ es.length ∧ i = .int .i64 (k : Int) ∧ Hid (gcheckL n (lastE es k) (es.drop k) = gcheckL n (-1, -1) es) ∧ Hid (BL wr w.heap.size 25 [.int .i64 n, .slice A es.length c]) ∧ Hid (Below w.heap.size w wr)) (fun i _ => es.length - (intOf i).toNat)
  case atStart => exact ⟨0, Nat.zero_le _, rfl, rfl, HX0.out, HB0.out⟩
  case round =>
    obtain ⟨k, hk, rfl, hE, hx, hb⟩ := hrel
    have y0 := hx.out.cell 0
    have y1 := hx.out.cell 1
    by_cases hlt : k < es.length
    · obtain ⟨t, ht⟩ : ∃ t, es[k]? = some t := ⟨es[k], List.getElem?_eq_getElem hlt⟩
      have HEd := Hd (edge_any _ n es k t wr (HG.out.below hb.out) ht)
      have hd : es.drop k = t :: es.drop (k + 1) := by
        obtain ⟨h, rfl⟩ := List.getElem?_eq_some_iff.1 ht
        exact List.drop_eq_getElem_cons h
      by_cases ho : okE n (lastE es k) t = 0
      · rw [ho] at HEd
        have HE2 : Hid (gcheckL n (lastE es (k + 1)) (es.drop (k + 1)) = gcheckL n (-1, -1) es) := by
          show _ = _
          rw [← hE.out, hd, lastE_succ ht]
          conv => rhs; unfold gcheckL
          rw [if_neg (by simpa using ho)]
        clear ho ht hd hE
        go_wp2_with fail
        refine HEd.out.mono ?_
        rintro e w1 ⟨rfl, hb1⟩
        have HX1 := Hd (hx.out.bel hb1)
        have HB1 := Hd (hb.out.trans (hb1.mono hb.out.size))
        clear hb1
        go_wp2
        go_roundw
        case rel => exact ⟨k + 1, by omega, by go_num, HE2.out, HX1.out, HB1.out⟩
        case measure => simp [intOf]; omega
      · obtain ⟨r, hr⟩ : ∃ r, r = okE n (lastE es k) t := ⟨_, rfl⟩
        have HR : Hid (gcheckE n es = r) := by
          show _ = _
          rw [HE.out, ← hE.out, hd]
          unfold gcheckL
          rw [if_pos ho, hr]
        rw [← hr] at HEd ho
        have t1 : (r != 0) = true := by simpa using ho
        clear ho ht hd hE hr
        go_wp2_with fail
        refine HEd.out.mono ?_
        rintro e w1 ⟨rfl, hb1⟩
        have HB1 := Hd (hb.out.trans (hb1.mono hb.out.size))
        clear hb1
        go_wp2
        go_ret
        exact ⟨ret_i HR.out.symm, HB1.out⟩
    · have HR : Hid (gcheckE n es = 0) := by
        show _ = _
        rw [HE.out, ← hE.out, List.drop_of_length_le (by omega)]
        rfl
      go_wp2
      go_ret
      exact ⟨ret_i HR.out.symm, hb.out⟩
theorem wpList_append' {P : Program} {ops : Array Oper} {rest : List Oper} {o : Oper} {a : Act} {w : World} {Q : Exit → Act → World → Prop} (hgd : o.guard = none) (s x : Operand) (t : TypeId)
    (ho : o.op = .call { callee := .builtin .append, args := #[s, x], argTypes := #[t, t] }) (vs vx : Value) (hs : a.eval s = vs) (hx : a.eval x = vx) (v' : Value) (w' : World)
    (hrun : (Builtin.append_ #[t, t] o.type #[vs, vx]).run P w = .ok v' w') (h : wpList P ops Q rest (a.put o.dst v') w') : wpList P ops Q (o :: rest) a w := by
  refine wpList_plain hgd fun K hK => ?_
  unfold Oper.wp execOp
  simp only [ho, resolve, invoke, builtin, Sem.run_bind, Sem.run_pure, Result.andThen_ok, List.map_toArray, List.map_cons, List.map_nil, hs, hx, hrun]
  exact hK _ _ h
theorem step_append' {P : Program} {w : World} {ops : Array Oper} {o : Oper} {a : Act} {K : Act → World → Prop} {Q : Exit → Act → World → Prop} {E : Prop} (hgd : o.guard = none) (s x : Operand) (t : TypeId)
    (ho : o.op = .call { callee := .builtin .append, args := #[s, x], argTypes := #[t, t] }) (vs vx : Value) (hs : a.eval s = vs) (hx : a.eval x = vx) (v' : Value) (w' : World)
    (hrun : (Builtin.append_ #[t, t] o.type #[vs, vx]).run P w = .ok v' w') (h : K (a.put o.dst v') w') : if Region.wanted o (yielded ops a.tmps) = true then Oper.wp P o a w K Q else E := by
  have hw : Region.wanted o (yielded ops a.tmps) = true := by simp [Region.wanted, hgd]
  rw [if_pos hw]
  unfold Oper.wp execOp
  simp only [ho, resolve, invoke, builtin, Sem.run_bind, Sem.run_pure, Result.andThen_ok, List.map_toArray, List.map_cons, List.map_nil, hs, hx, hrun]
  exact h
theorem rEnds_any (g : Value) (n : Nat) (es : List Tri) (w : World) (hg : GV w g n es) (hE : Edges n es) (hlen : (singL es).length ≤ 900000) :
    Calls Tryz.prog 91 #[g] w fun e w' => ∃ v, e = .returned v ∧ OP w' w.heap.size v (singL es) ∧ Below w.heap.size w w' := by
  obtain ⟨A, c, rfl, hlc, hc, hcell⟩ := hg.open_
  obtain ⟨i1, hi1, hz01, hz11, hz21⟩ := info_parts' pair_info
  obtain ⟨W0, hW0⟩ : ∃ W0, W0 = w.alloc (.cells #[.int .i64 (n : Int), .slice A es.length c] 25) := ⟨_, rfl⟩
  have hb0 : Below w.heap.size w W0 := by rw [hW0]; exact below_alloc w _
  have hx0 : BL W0 w.heap.size 25 [.int .i64 (n : Int), .slice A es.length c] := by rw [hW0]; exact BL.new' w _ _
  have HX0 := Hd hx0
  have HB0 := Hd hb0
  have HW0 := Hd hW0
  have HCe := Hd hcell
  have HE := Hd hE
  have HLen := Hd hlen
  clear hg hcell hb0 hx0 hW0 hE hlen
  go_enter Tryz.func91, Tryz.ntmps91
  go_wp2_with fail
  rw [← HW0.out]
  go_loopw [3, 4] (fun vo i wr => ∃ j : Nat, j ≤ es.length ∧ i = .int .i64 (j : Int) ∧ Hid (OP wr (w.heap.size + 1) vo (singL (es.take j))) ∧ Hid (BL wr w.heap.size 25 [.int .i64 (n : Int), .slice A es.length c]) ∧ Hid (Below w.heap.size w wr)) (fun _ i _ => es.length - (intOf i).toNat)
  case atStart => exact ⟨0, Nat.zero_le _, rfl, OP.nil_ _ _, HX0.out, HB0.out⟩
  case round =>
    obtain ⟨j, hj, rfl, ho, hx, hb⟩ := hrel
    have y1 := hx.out.cell 1
    by_cases hlt : j < es.length
    · obtain ⟨ad, a, b, m, rfl, hab, ht, c1, c2, c3⟩ := HCe.out j hlt
      have hme := HE.out.mult _ (getD_tri ht)
      simp only at hme
      obtain ⟨mn, rfl⟩ := Int.eq_ofNat_of_zero_le (show 0 ≤ m by omega)
      have HT1 := Hd (sing_take ht)
      have HT2 := Hd (sing_split ht)
      have hmn : mn ≤ 50 := by omega
      obtain ⟨A1, c1', rfl⟩ := ho.out.shape
      have HO := ho
      have HX := hx
      have HB := hb
      clear ht ho hx hb hme
      go_wp2_with fail
      go_loopw [3, 5] (fun vo i wr => ∃ v : Nat, v ≤ mn ∧ i = .int .i64 (v : Int) ∧ Hid (OP wr (w.heap.size + 1) vo (singL (es.take j) ++ List.replicate v (a, b))) ∧ Hid (BL wr w.heap.size 25 [.int .i64 (n : Int), .slice (some ad) es.length c]) ∧ Hid (Below w.heap.size w wr)) (fun _ i _ => mn - (intOf i).toNat)
      case atStart => exact ⟨0, Nat.zero_le _, rfl, by simpa [Hid] using HO.out, HX.out, HB.out⟩
      case round =>
        clear y1
        obtain ⟨v, hv, rfl, ho, hx, hb⟩ := hrel
        have y1 := hx.out.cell 1
        obtain ⟨d1, d2, d3⟩ := tri_cells hb.out hab c1 c2 c3
        by_cases hvl : v < mn
        · obtain ⟨A2, c2', rfl⟩ := ho.out.shape
          have hpl : (singL (es.take j) ++ List.replicate v (a, b)).length < 900000 := by
            have h := HLen.out
            rw [HT2.out] at h
            simp [oneL] at h ⊢
            omega
          have hod := OP.below (w' := wr.drew) ho.out (Below.refl _ _).drew
          have hbs := hb.out.size
          have hxl := hx.out.lt
          obtain ⟨g2, cap2, w', hrun, hown, hgr, hat⟩ := run_append_pair (P := Tryz.prog) wr.drew 136 136 i1 _ 16 Tryz.underlying136 hi1 hz01 hz11 hz21 (by omega) rfl (w.heap.size + 1) _ _ hod a b (by omega) hxl
          have hst : singL (es.take j) ++ List.replicate v (a, b) ++ [(a, b)] = singL (es.take j) ++ List.replicate (v + 1) (a, b) := by rw [List.append_assoc, List.replicate_succ']
          rw [hst] at hown
          have hlen1 : (singL (es.take j) ++ List.replicate v (a, b)).length + 1 = (singL (es.take j) ++ List.replicate (v + 1) (a, b)).length := by simp; omega
          have HX3 : Hid (BL w' w.heap.size 25 [.int .i64 (n : Int), .slice (some ad) es.length c]) := BL.grown (w := wr.drew.alloc (.cells #[.int .i64 a, .int .i64 b] 199)) (BL.alloc (BL.drew hx.out) _) hgr (fun e => by have := (hod.block_ e).choose_spec.2.1; omega)
          have HB3 : Hid (Below w.heap.size w w') := by
            have h1 : Below w.heap.size w wr.drew := hb.out.drew
            exact (h1.alloc hbs _).grown hgr (by simp; omega) (fun k hk => by have := (hod.block_ hk).choose_spec.2.1; omega)
          have HO3 := Hd hown
          have HS0 : Hid (wr.drew.cell? ⟨w.heap.size, 1, none⟩ = some (.slice (some ad) es.length c) ∧ wr.drew.cell? (ad.add (j * 3)) = some (.int .i64 a) ∧ wr.drew.cell? ⟨(ad.add (j * 3)).block, (ad.add (j * 3)).off + 1, none⟩ = some (.int .i64 b)) := ⟨y1, d1, d2⟩
          have hba : Below wr.heap.size wr (wr.alloc (.cells #[.int .i64 a, .int .i64 b] 199)).drew := (below_alloc wr _).drew
          have habr : ad.block < wr.heap.size := by omega
          have HS1 : Hid ((wr.alloc (.cells #[.int .i64 a, .int .i64 b] 199)).drew.cell? ⟨w.heap.size, 1, none⟩ = some (.slice (some ad) es.length c) ∧ (wr.alloc (.cells #[.int .i64 a, .int .i64 b] 199)).drew.cell? (ad.add (j * 3)) = some (.int .i64 a) ∧ (wr.alloc (.cells #[.int .i64 a, .int .i64 b] 199)).drew.cell? ⟨(ad.add (j * 3)).block, (ad.add (j * 3)).off + 1, none⟩ = some (.int .i64 b) ) :=
            ⟨(hx.out.bel hba).cell 1, (hba.cell (by rw [block_of_add]; exact habr)).trans d1, (hba.cell (p := ⟨(ad.add (j * 3)).block, (ad.add (j * 3)).off + 1, none⟩) (by show (ad.add (j * 3)).block < _; rw [block_of_add]; exact habr)).trans d2⟩
          obtain ⟨e1, e2, -⟩ := tri_cells HB3.out hab c1 c2 c3
          have HS2 : Hid (w'.cell? ⟨w.heap.size, 1, none⟩ = some (.slice (some ad) es.length c) ∧ w'.cell? (ad.add (j * 3)) = some (.int .i64 a) ∧ w'.cell? ⟨(ad.add (j * 3)).block, (ad.add (j * 3)).off + 1, none⟩ = some (.int .i64 b)) := ⟨HX3.out.cell 1, e1, e2⟩
          have hrunB := hrun
          change (Builtin.append_ #[136, 136] 136 #[_, .slice (some ⟨wr.heap.size, 0, none⟩) 1 1]).run Tryz.prog (wr.drew.alloc (.cells #[.int .i64 a, .int .i64 b] 199)) = _ at hrunB
          change (Builtin.append_ #[136, 136] 136 _).run Tryz.prog (wr.alloc (.cells #[.int .i64 a, .int .i64 b] 199)).drew = _ at hrun
          change (Builtin.append_ #[136, 136] 136 #[_, .slice (some ⟨wr.heap.size, 0, none⟩) 1 1]).run Tryz.prog _ = _ at hrun
          have hj0 : (0 : Int) ≤ (j : Int) := by omega
          have hj1 : (j : Int) < (es.length : Int) := by omega
          obtain ⟨nv, hnv⟩ : ∃ nv, nv = Value.slice (some ⟨g2, 0, none⟩) ((singL (es.take j) ++ List.replicate v (a, b)).length + 1) cap2 := ⟨_, rfl⟩
          rw [← hnv] at hrun hrunB HO3
          obtain ⟨ln, hln⟩ : ∃ ln, ln = (singL (es.take j) ++ List.replicate v (a, b)).length := ⟨_, rfl⟩
          rw [← hln] at hrun hrunB ⊢
          clear ho hx hb hpl hod hbs hgr hat hown hst hlen1 hnv hln hxl hba e1 e2 habr
          go_wp2_with fail
          clear y1 d1 d2 d3
          have hcs := HS0.out
          obtain ⟨u1, u2, u3⟩ := hcs
          have hcs := HS1.out
          obtain ⟨u4, u5, u6⟩ := hcs
          go_region_law (refine step_append' rfl (.tmp 23) (.tmp 37) 136 rfl _ _ (by simp [Act.eval]) (by simp [Act.eval]) _ _ hrun ?_)
          all_goals
           go_wp2
           go_roundw
           case rel => exact ⟨v + 1, by omega, by go_num, HO3.out, HX3.out, HB3.out⟩
           case measure => simp [intOf]; omega
        · obtain rfl : v = mn := by omega
          have hh : singL (es.take j) ++ List.replicate v (a, b) = singL (es.take (j + 1)) := by rw [HT1.out]; simp [oneL]
          rw [hh] at ho
          clear hh
          go_wp2
          go_roundw
          case rel => exact ⟨j + 1, by omega, by go_num, ho.out, hx.out, hb.out⟩
          case measure => simp [intOf]; omega
    · have hje : es.take j = es := List.take_of_length_le (by omega)
      have HO3 := ho
      rw [hje] at HO3
      go_wp2
      go_ret
      exact ⟨_, rfl, OP.mono HO3.out (by omega), hb.out⟩
end Go.Proofs.YteamhbohgoclgaaGreatDoor

