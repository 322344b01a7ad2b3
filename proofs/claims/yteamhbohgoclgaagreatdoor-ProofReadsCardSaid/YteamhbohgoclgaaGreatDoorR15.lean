/- Words as numbers, in plain Lean: what is canonical, what it is worth, what the library's Atoi says of it. No program in sight. -/
import Derived.Test.YteamhbohgoclgaaGreatDoorR14
import Derived.Lib.AtoiAllCases
import Derived.Lib.ItoaLen
import Derived.Lib.MinMax
import Derived.Lib.ParseIntBMem
import Derived.Lib.SlTrimSet
set_option maxRecDepth 100000
set_option maxHeartbeats 16000000
namespace Go.Proofs.YteamhbohgoclgaaGreatDoor
open Go.RowKit Go.Shelf

def isDg (c : UInt8) : Bool := decide (48 <= c.toNat) && decide (c.toNat <= 57)
def magW : List UInt8 -> List UInt8
 | [] => []
 | c :: r => if c = 45 then r else c :: r
def minW : List UInt8 -> Bool
 | [] => false
 | c :: _ => decide (c = 45)
def canB (s : List UInt8) : Bool := decide (magW s ≠ []) && (magW s).all isDg && (decide ((magW s).getD 0 0 ≠ 48) || (decide (magW s = [48]) && !minW s))
def stepD (acc : Nat) (c : UInt8) : Nat := acc * 10 + (c.toNat - 48)
def decV (acc : Nat) (l : List UInt8) : Nat := l.foldl stepD acc
theorem decV_nil (acc : Nat) : decV acc [] = acc := rfl
theorem decV_cons (acc : Nat) (c : UInt8) (r : List UInt8) : decV acc (c :: r) = decV (acc * 10 + (c.toNat - 48)) r := by
 unfold decV
 rw [List.foldl_cons, stepD]
def wv (s : List UInt8) : Int := if minW s then -((decV 0 (magW s) : Nat) : Int) else ((decV 0 (magW s) : Nat) : Int)
theorem decV_ge (l : List UInt8) : ∀ acc : Nat, acc <= decV acc l := by
 induction l with
 | nil => intro acc; rw [decV_nil]; exact Nat.le_refl _
 | cons c r ih =>
   intro acc
   rw [decV_cons]
   exact Nat.le_trans (Nat.le_trans (Nat.le_mul_of_pos_right acc (by decide)) (Nat.le_add_right _ _)) (ih (acc * 10 + (c.toNat - 48)))
theorem parse_dec (l : List UInt8) : ∀ acc : Nat, l.all isDg = true -> acc < 18446744073709551616 -> Go.Lib.parseUint10 acc l = if decV acc l < 18446744073709551616 then .ok (decV acc l) else .range := by
 induction l with
 | nil => intro acc _ ha; rw [decV_nil, if_pos ha]; rfl
 | cons c r ih =>
   intro acc hd ha
   rw [List.all_cons, Bool.and_eq_true] at hd
   obtain ⟨h1, h2⟩ := hd
   unfold isDg at h1
   simp only [Bool.and_eq_true, decide_eq_true_eq] at h1
   have h3 := decV_ge r (acc * 10 + (c.toNat - 48))
   have h4 := ih (acc * 10 + (c.toNat - 48)) h2
   rw [Go.Lib.parseUint10, if_pos h1, decV_cons]
   generalize decV (acc * 10 + (c.toNat - 48)) r = x at *
   by_cases c1 : 1844674407370955162 <= acc
   · rw [if_pos c1, if_neg (by omega)]
   · rw [if_neg c1]
     by_cases c2 : 18446744073709551616 <= acc * 10 + (c.toNat - 48)
     · rw [if_pos c2, if_neg (by omega)]
     · rw [if_neg c2, h4 (by omega)]
theorem canB_parts {s : List UInt8} (h : canB s = true) : magW s ≠ [] /\ (magW s).all isDg = true /\ ((magW s).getD 0 0 ≠ 48 \/ (magW s = [48] /\ minW s = false)) := by
 unfold canB at h
 simp only [Bool.and_eq_true, Bool.or_eq_true, Bool.not_eq_true', decide_eq_true_eq] at h
 exact ⟨h.1.1, h.1.2, h.2⟩
theorem atoi_can {s : List UInt8} (h : canB s = true) : Go.Lib.atoiAll s = if -9223372036854775808 <= wv s /\ wv s <= 9223372036854775807 then .ok (wv s) else .range := by
 obtain ⟨h1, h2, -⟩ := canB_parts h
 have hp := parse_dec (magW s) 0 h2 (by omega)
 have hm : Go.Lib.parseMag (magW s) = if decV 0 (magW s) < 18446744073709551616 then .ok (decV 0 (magW s)) else .range := by
   unfold Go.Lib.parseMag; rw [if_neg h1]; exact hp
 cases s with
 | nil => exact absurd rfl h1
 | cons c r =>
   by_cases hc : c = 45
   · subst hc
     have e1 : magW (45 :: r) = r := by simp [magW]
     have e2 : minW (45 :: r) = true := rfl
     have e3 : wv (45 :: r) = -((decV 0 r : Nat) : Int) := by unfold wv; rw [e1, e2]; rfl
     rw [e1] at hm
     rw [Go.Lib.atoiAll_minus, hm, e3]
     generalize decV 0 r = n at *
     by_cases c1 : n < 18446744073709551616
     · rw [if_pos c1]
       by_cases c2 : 9223372036854775808 < n
       · rw [if_neg (by omega)]; show (if _ then _ else _) = _; rw [if_pos c2]
       · rw [if_pos (by omega)]; show (if _ then _ else _) = _; rw [if_neg c2]
     · rw [if_neg c1, if_neg (by omega)]; rfl
   · have e1 : magW (c :: r) = c :: r := by simp [magW, hc]
     have e2 : minW (c :: r) = false := decide_eq_false hc
     have e3 : wv (c :: r) = ((decV 0 (c :: r) : Nat) : Int) := by unfold wv; rw [e1, e2]; rfl
     rw [e1] at hm h2
     have hcd : 48 <= c.toNat := by
       rw [List.all_cons, Bool.and_eq_true] at h2
       have := h2.1
       unfold isDg at this
       simp only [Bool.and_eq_true, decide_eq_true_eq] at this
       exact this.1
     rw [Go.Lib.atoiAll_plain c r (by omega) (by omega), hm, e3]
     generalize decV 0 (c :: r) = n at *
     by_cases c1 : n < 18446744073709551616
     · rw [if_pos c1]
       by_cases c2 : 9223372036854775808 <= n
       · rw [if_neg (by omega)]; show (if _ then _ else _) = _; rw [if_pos c2]
       · rw [if_pos (by omega)]; show (if _ then _ else _) = _; rw [if_neg c2]
     · rw [if_neg c1, if_neg (by omega)]; rfl
def dgsW (d : List UInt8) : List Int := d.reverse.map fun c => (c.toNat : Int) - 48
theorem dgsW_cons (c : UInt8) (r : List UInt8) : dgsW (c :: r) = dgsW r ++ [(c.toNat : Int) - 48] := by simp [dgsW]
theorem dgsW_len (d : List UInt8) : (dgsW d).length = d.length := by simp [dgsW]
theorem dgsW_dig : ∀ {d : List UInt8}, d.all isDg = true -> Dig (dgsW d)
 | [], _ => fun k => by simp [dgsW]
 | c :: r, h => by
   rw [List.all_cons, Bool.and_eq_true] at h
   have h1 := h.1
   unfold isDg at h1
   simp only [Bool.and_eq_true, decide_eq_true_eq] at h1
   rw [dgsW_cons]
   exact (dgsW_dig h.2).snoc (by omega) (by omega)
theorem decV_dval (d : List UInt8) : ∀ acc : Nat, d.all isDg = true -> ((decV acc d : Nat) : Int) = (acc : Int) * p10 d.length + dval (dgsW d) := by
 induction d with
 | nil => intro acc _; simp [decV_nil, dgsW, dval, p10]
 | cons c r ih =>
   intro acc h
   rw [List.all_cons, Bool.and_eq_true] at h
   have h1 := h.1
   unfold isDg at h1
   simp only [Bool.and_eq_true, decide_eq_true_eq] at h1
   rw [decV_cons, ih _ h.2, dgsW_cons, dval_snoc, dgsW_len, List.length_cons, p10]
   have e : ((acc * 10 + (c.toNat - 48) : Nat) : Int) = (acc : Int) * 10 + ((c.toNat : Int) - 48) := by omega
   rw [e]
   grind
theorem chrs_dgsW {d : List UInt8} (h : d.all isDg = true) : chrs (dgsW d) = d := by
 unfold chrs dgsW
 rw [<- List.map_reverse, List.reverse_reverse, List.map_map]
 conv => rhs; rw [<- List.map_id d]
 refine List.map_congr_left fun c hc => ?_
 have h1 := List.all_eq_true.1 h c hc
 unfold isDg at h1
 simp only [Bool.and_eq_true, decide_eq_true_eq] at h1
 show UInt8.ofNat (48 + ((c.toNat : Int) - 48)).toNat = c
 rw [show (48 + ((c.toNat : Int) - 48)).toNat = c.toNat by omega]
 exact UInt8.ofNat_toNat
theorem can_text {s : List UInt8} (h : canB s = true) : ∃ (l : List Int) (m : Bool), textL l m = s /\ Dig l /\ Can l /\ (l = [] -> m = false) /\ wv s = sgZ l m /\ l.length <= (magW s).length /\ (l ≠ [] -> l.length = (magW s).length) := by
 obtain ⟨h1, h2, h3⟩ := canB_parts h
 have hv := decV_dval (magW s) 0 h2
 rw [Int.natCast_zero, Int.zero_mul, Int.zero_add] at hv
 by_cases h0 : magW s = [48]
 · have hm : minW s = false := by
     rcases h3 with h3 | h3
     · rw [h0] at h3; exact absurd rfl h3
     · exact h3.2
   have hs : s = [48] := by
     cases s with
     | nil => exact absurd rfl h1
     | cons c r =>
       have hc : c ≠ 45 := of_decide_eq_false hm
       rw [show magW (c :: r) = c :: r by simp [magW, hc]] at h0; exact h0
   subst hs
   exact ⟨[], false, rfl, dig_nil, .inl rfl, fun _ => rfl, by decide, by simp, fun h => absurd rfl h⟩
 · have hne : dgsW (magW s) ≠ [] := by
     intro e
     have := congrArg List.length e
     rw [dgsW_len] at this
     exact h1 (List.eq_nil_of_length_eq_zero this)
   have hhd : (magW s).getD 0 0 ≠ 48 := by
     rcases h3 with h3 | h3
     · exact h3
     · exact absurd h3.1 h0
   refine ⟨dgsW (magW s), minW s, ?_, dgsW_dig h2, .inr ?_, fun e => absurd e hne, ?_, by rw [dgsW_len]; exact Nat.le_refl _, fun _ => dgsW_len _⟩
   · unfold textL
     rw [if_neg hne, chrs_dgsW h2]
     cases s with
     | nil => exact absurd rfl h1
     | cons c r =>
       by_cases hc : c = 45
       · subst hc; rfl
       · rw [show magW (c :: r) = c :: r by simp [magW, hc], show minW (c :: r) = false from decide_eq_false hc]; rfl
   · cases hm : magW s with
     | nil => exact absurd hm h1
     | cons c r =>
       rw [hm] at hhd h2
       rw [dgsW_cons, List.length_append, List.length_singleton, Nat.add_sub_cancel, List.getD_eq_getElem?_getD, List.getElem?_append_right (Nat.le_refl _), Nat.sub_self]
       have hc : c ≠ 48 := hhd
       have : c.toNat ≠ 48 := fun e => hc (UInt8.toNat_inj.1 e)
       show (c.toNat : Int) - 48 ≠ 0
       omega
   · unfold wv sgZ; rw [hv]
theorem can_long {s : List UInt8} (h : canB s = true) {k : Nat} (hk : k < (magW s).length) (hk1 : 1 <= k) : wv s <= -p10 k \/ p10 k <= wv s := by
 obtain ⟨l, m, -, hd, hc, -, hw, hl, hl2⟩ := can_text h
 by_cases e : l = []
 · have h0 : magW s ≠ [48] := fun e => by rw [e] at hk; simp at hk; omega
   obtain ⟨-, h2, h3⟩ := canB_parts h
   rcases h3 with h3 | h3
   · exfalso
     have hv := decV_dval (magW s) 0 h2
     rw [Int.natCast_zero, Int.zero_mul, Int.zero_add] at hv
     have hw0 : wv s = 0 := by rw [hw, e]; unfold sgZ; split <;> rfl
     have hd0 : dval (dgsW (magW s)) = 0 := by
       have := hw0
       unfold wv at this
       rw [hv] at this
       split at this <;> omega
     cases hm : magW s with
     | nil => rw [hm] at hk; simp at hk
     | cons c r =>
       rw [hm] at hd0 h2 h3
       have hr : (r.all isDg) = true := by rw [List.all_cons, Bool.and_eq_true] at h2; exact h2.2
       rw [dgsW_cons, dval_snoc] at hd0
       have h4 := (dval_bd (dgsW_dig hr)).1
       have h5 : c.toNat ≠ 48 := fun e => h3 (UInt8.toNat_inj.1 e)
       have h6 : 48 <= c.toNat := by
         rw [List.all_cons, Bool.and_eq_true] at h2
         have := h2.1
         unfold isDg at this
         simp only [Bool.and_eq_true, decide_eq_true_eq] at this
         exact this.1
       have h7 := p10_pos (dgsW r).length
       have h8 := Int.mul_le_mul_of_nonneg_left (show (1 : Int) <= (c.toNat : Int) - 48 by omega) (show 0 <= p10 (dgsW r).length by omega)
       omega
   · exact absurd h3.1 h0
 · have h1 := can_ge hd hc e
   have h2 := p10_mono (a := k) (b := l.length - 1) (by rw [hl2 e]; omega)
   rw [hw]
   unfold sgZ
   cases m
   · rw [if_neg (by simp)]; omega
   · rw [if_pos rfl]; omega
theorem p10_19 : (9223372036854775808 : Int) <= p10 1024 := Int.le_trans (by decide : (9223372036854775808 : Int) <= p10 19) (p10_mono (by omega))
def numsV (ws : List (List UInt8)) : List Int := ws.map wv
def numsE (ws : List (List UInt8)) : Int := if ws.all canB = false then 4 else if ws.all (fun s => decide (-1048576 <= wv s) && decide (wv s <= 1048576)) = false then 2 else 0

def zV (z : Int) : Value := .string ⟨(Go.Lib.itoa z).toArray⟩
theorem itoa_parts (z : Int) : Go.Lib.itoa z = if z < 0 then 45 :: Go.Lib.decDigits z.natAbs else Go.Lib.decDigits z.natAbs := by
 unfold Go.Lib.itoa
 split
 · rfl
 · rw [show z.toNat = z.natAbs by omega]

theorem In_any (k : Int) (w : World) : Calls Tryz.prog 101 #[.int .i64 k] w fun e w' => e = .returned (.bool (InB k)) /\ w = w' := by
 go_enter Tryz.func101, Tryz.ntmps101
 go_wp2
 all_goals (go_ret; exact ⟨by simp [InB, *]; try omega, rfl⟩)

theorem rCheck_any (v : Value) (zs : List Int) (n : Int) (w : World) (hv : RI w v zs) :
   Calls Tryz.prog 69 #[v, .int .i64 n] w fun e w' => e = .returned (.int .i64 (checkE zs n)) /\ w = w' := by
 obtain ⟨A, c, rfl, hlc, hc, hcell⟩ := hv.open_
 have HC := Hd hcell
 clear hcell hv
 by_cases h1 : n < 1
 · go_enter Tryz.func69, Tryz.ntmps69
   go_wp2
   go_ret
   exact ⟨ret_i (by simp [checkE, h1]), rfl⟩
 by_cases h1' : 12 < n
 · go_enter Tryz.func69, Tryz.ntmps69
   go_wp2
   go_ret
   exact ⟨ret_i (by simp [checkE, h1']), rfl⟩
 have H1 := Hd (show ¬ (n < 1 \/ 12 < n) by omega)
 by_cases h2 : (zs.length : Int) = n
 · have e2 : ((zs.length : Int) != n) = false := by simp [h2]
   have H2 := Hd h2
   have h2' : (zs.length : Int) <= n /\ n <= zs.length := by omega
   clear h2
   go_enter Tryz.func69, Tryz.ntmps69
   go_wp2
   go_loop [5] (fun i => ∃ k : Nat, k <= zs.length /\ i = .int .i64 k /\ Hid ((zs.drop k).all InB = zs.all InB)) (fun i => zs.length - (intOf i).toNat)
   case atStart => exact ⟨0, Nat.zero_le _, rfl, rfl⟩
   case round =>
     obtain ⟨k, hk, rfl, hr⟩ := hrel
     by_cases hlt : k < zs.length
     · obtain ⟨ad, z, rfl, _, hz, hcl⟩ := HC.out k hlt
       clear HC
       have hd := Hd (drop_at hz)
       have hlt2 : (k : Int) < n := by omega
       cases hb : InB z
       · go_wp2_with (go_at_call 101; refine (In_any _ _).mono ?_; rintro e w' ⟨rfl, rfl⟩)
         go_ret
         refine ⟨ret_i ?_, rfl⟩
         have := hr.out; rw [hd.out] at this
         simp only [checkE, if_neg H1.out, H2.out, <- this]
         simp [hb]
       · go_wp2_with (go_at_call 101; refine (In_any _ _).mono ?_; rintro e w' ⟨rfl, rfl⟩)
         go_round
         case rel => exact ⟨k + 1, by omega, by go_num, by have := hr.out; rw [hd.out] at this; simpa [Hid, hb] using this⟩
         case measure => simp [intOf]; omega
     · have hlt2 : n <= (k : Int) := by omega
       go_wp2
       go_ret
       refine ⟨ret_i ?_, rfl⟩
       have := hr.out; rw [List.drop_of_length_le (by omega)] at this
       simp only [checkE, if_neg H1.out, H2.out, <- this]
       simp
 · have e2 : ((zs.length : Int) != n) = true := by simp [h2]
   have H2 := Hd h2
   clear h2
   go_enter Tryz.func69, Tryz.ntmps69
   go_wp2
   go_ret
   exact ⟨ret_i (by simp [checkE, H1.out, H2.out]), rfl⟩

theorem rVertex_any (g : Value) (n : Int) (es : List Tri) (v : Int) (w : World) (hg : GV w g n es) :
   Calls Tryz.prog 68 #[g, .int .i64 v] w fun e w' => e = .returned (.bool (vtxB n v)) /\ Below w.heap.size w w' := by
 obtain ⟨A, c, rfl, -⟩ := hg.open_
 clear hg
 by_cases h1 : 0 <= v
 · by_cases h2 : v < n
   · go_enter Tryz.func68, Tryz.ntmps68
     go_wp2
     go_ret
     exact ⟨ret_b (by simp [vtxB, h1, h2]), below_alloc w _⟩
   · go_enter Tryz.func68, Tryz.ntmps68
     go_wp2
     go_ret
     exact ⟨ret_b (by simp [vtxB, h2]), below_alloc w _⟩
 · go_enter Tryz.func68, Tryz.ntmps68
   go_wp2
   go_ret
   exact ⟨ret_b (by simp [vtxB]; omega), below_alloc w _⟩
def lastE (es : List Tri) : Nat -> Int × Int
 | 0 => (-1, -1)
 | j + 1 => ((es.getD j (0, 0, 0)).1, (es.getD j (0, 0, 0)).2.1)
theorem okE_back {n la lb a b m : Int} (h1 : vtxB n a = true) (h2 : vtxB n b = true) (h3 : ¬ m < 1) (h4 : ¬ 50 < m) (h5 : a <= b) : okE n (la, lb) (a, b, m) = if a < la \/ (a = la /\ b <= lb) then 9 else 0 := by
 rw [vtxB_iff] at h1 h2
 unfold okE
 simp only
 rw [if_neg (by omega)]
 by_cases h : a < la \/ (a = la /\ b <= lb)
 · rw [if_pos (.inr h), if_pos h]
 · rw [if_neg (by omega), if_neg h]
theorem okE_cross {n la lb a b m : Int} (h1 : vtxB n a = true) (h2 : vtxB n b = true) (h3 : ¬ m < 1) (h4 : ¬ 50 < m) (h5 : b < a) : okE n (la, lb) (a, b, m) = 9 := by
 rw [vtxB_iff] at h1 h2
 unfold okE
 simp only
 rw [if_neg (by omega), if_pos (.inl h5)]
theorem edge_any (g : Value) (n : Int) (es : List Tri) (k : Nat) (t : Tri) (w : World) (hg : GV w g n es) (ht : es[k]? = some t) :
   Calls Tryz.prog 90 #[g, .int .i64 (k : Int)] w fun e w' => e = .returned (.int .i64 (okE n (lastE es k) t)) /\ Below w.heap.size w w' := by
 obtain ⟨A, c, rfl, hlc, hc, hcell⟩ := hg.open_
 have hk : k < es.length := by
   by_cases h : k < es.length
   · exact h
   · rw [List.getElem?_eq_none (by omega)] at ht; cases ht
 obtain ⟨ad, a, b, m, rfl, hab, ht', c1, c2, c3⟩ := hcell k hk
 obtain rfl : (a, b, m) = t := Option.some.inj (ht'.out.symm.trans ht)
 obtain ⟨W0, hW0⟩ : ∃ W0, W0 = w.alloc (.cells #[.int .i64 n, .slice (some ad) es.length c] 25) := ⟨_, rfl⟩
 have hb0 : Below w.heap.size w W0 := by rw [hW0]; exact below_alloc w _
 have hz0 : W0.heap.size = w.heap.size + 1 := by rw [hW0]; simp
 have hx0 : BL W0 w.heap.size 25 [.int .i64 n, .slice (some ad) es.length c] := by rw [hW0]; exact BL.new' w _ _
 obtain ⟨d1, d2, d3⟩ := tri_cells hb0 hab c1 c2 c3
 obtain ⟨W1, hW1⟩ : ∃ W1, W1 = W0.alloc (.cells #[.int .i64 a, .int .i64 b, .int .i64 m] 68) := ⟨_, rfl⟩
 have hb1 : Below W0.heap.size W0 W1 := by rw [hW1]; exact below_alloc W0 _
 have hx1 : BL W1 (w.heap.size + 1) 68 [.int .i64 a, .int .i64 b, .int .i64 m] := by rw [hW1, <- hz0]; exact BL.new' W0 _ _
 have hbb : Below w.heap.size w W1 := hb0.trans (hb1.mono (by omega))
 have HG1 := Hd (hg.below hbb)
 have HX1 := Hd (hx0.bel hb1)
 have HY1 := Hd hx1
 have HBB := Hd hbb
 have HV1 := Hd (rVertex_any _ n es a W1 HG1.out)
 have x0 := hx0.cell 0
 have x1 := hx0.cell 1
 have y0 := HX1.out.cell 0
 have y1 := HX1.out.cell 1
 have z0 := hx1.cell 0
 have z1 := hx1.cell 1
 have z2 := hx1.cell 2
 have HW0 := Hd hW0
 have HW1 := Hd hW1
 have HCe := Hd hcell
 rw [hW0] at x0 x1 d1 d2 d3
 rw [hW1, hW0] at y0 y1 z0 z1 z2
 have hk1 : (k : Int) < es.length := by omega
 clear hg ht hcell ht' c1 c2 c3 hb0 hx0 hb1 hx1 hbb hW0 hW1 hz0
 go_enter Tryz.func90, Tryz.ntmps90
 go_wp2_with fail
 rw [<- HW0.out, <- HW1.out]
 refine HV1.out.mono ?_
 rintro e w2 ⟨rfl, hb2⟩
 have HBB2 := Hd (HBB.out.trans (hb2.mono HBB.out.size))
 have HX2 := Hd (HX1.out.bel hb2)
 have HY2 := Hd (HY1.out.bel hb2)
 have HG2 := Hd (HG1.out.below hb2)
 have q0 := HX2.out.cell 0
 have q1 := HX2.out.cell 1
 have r0 := HY2.out.cell 0
 have r1 := HY2.out.cell 1
 have r2 := HY2.out.cell 2
 clear x0 x1 y0 y1 z0 z1 z2 d1 d2 d3 hb2
 cases hA : vtxB n a
 · have HR : Hid (okE n (lastE es k) (a, b, m) = 2) := okE_bad (.inl hA)
   go_wp2
   go_ret
   exact ⟨ret_i HR.out.symm, HBB2.out⟩
 have HV2 := Hd (rVertex_any _ n es b w2 HG2.out)
 go_wp2_with fail
 refine HV2.out.mono ?_
 rintro e w3 ⟨rfl, hb3⟩
 have HBB3 := Hd (HBB2.out.trans (hb3.mono HBB2.out.size))
 have HX3 := Hd (HX2.out.bel hb3)
 have HY3 := Hd (HY2.out.bel hb3)
 have HG3 := Hd (HG2.out.below hb3)
 have p0 := HX3.out.cell 0
 have p1 := HX3.out.cell 1
 have s0 := HY3.out.cell 0
 have s1 := HY3.out.cell 1
 have s2 := HY3.out.cell 2
 clear q0 q1 r0 r1 r2 hb3
 cases hB : vtxB n b
 · have HR : Hid (okE n (lastE es k) (a, b, m) = 2) := okE_bad (.inr (.inl hB))
   go_wp2
   go_ret
   exact ⟨ret_i HR.out.symm, HBB3.out⟩
 by_cases h1 : m < 1
 · have HR : Hid (okE n (lastE es k) (a, b, m) = 2) := okE_bad (.inr (.inr (.inl h1)))
   go_wp2
   go_ret
   exact ⟨ret_i HR.out.symm, HBB3.out⟩
 by_cases h2 : 50 < m
 · have HR : Hid (okE n (lastE es k) (a, b, m) = 2) := okE_bad (.inr (.inr (.inr h2)))
   go_wp2
   go_ret
   exact ⟨ret_i HR.out.symm, HBB3.out⟩
 by_cases h3 : b < a
 · have HR : Hid (okE n (lastE es k) (a, b, m) = 9) := okE_cross hA hB h1 h2 h3
   go_wp2
   go_ret
   exact ⟨ret_i HR.out.symm, HBB3.out⟩
 have HOk : Hid (∀ la lb, okE n (la, lb) (a, b, m) = if a < la \/ (a = la /\ b <= lb) then 9 else 0) := fun la lb => okE_back hA hB h1 h2 (by omega)
 cases k with
 | zero =>
   have HR : Hid (okE n (lastE es 0) (a, b, m) = 0) := by
     show _ = _
     rw [vtxB_iff] at hA
     show okE n (-1, -1) (a, b, m) = 0
     rw [HOk.out, if_neg (by omega)]
   simp only [Int.natCast_zero] at *
   go_wp2
   go_ret
   exact ⟨ret_i HR.out.symm, HBB3.out⟩
 | succ j =>
   obtain ⟨ad', la, lb, lm, he, -, ht', e1, e2, e3⟩ := HCe.out j (by omega)
   obtain rfl : ad = ad' := by simpa using he
   obtain ⟨d1, d2, d3⟩ := tri_cells HBB3.out hab e1 e2 e3
   have hL : lastE es (j + 1) = (la, lb) := by
     show ((es.getD j (0, 0, 0)).1, (es.getD j (0, 0, 0)).2.1) = _
     rw [List.getD_eq_getElem?_getD, ht'.out]; rfl
   have HR0 : Hid (okE n (lastE es (j + 1)) (a, b, m) = if a < la \/ (a = la /\ b <= lb) then 9 else 0) := by show _ = _; rw [hL, HOk.out]
   have hj0 : (0 : Int) <= (j : Int) := by omega
   have hj1 : (j : Int) < es.length := by omega
   have hj2 : (0 : Int) < (j : Int) + 1 := by omega
   have hj3 : IntKind.i64.wrap ((j : Int) + 1 - 1) = j := by rw [show (j : Int) + 1 - 1 = j by omega]; exact IntWalk.i64_in _ (by omega)
   have HB4 := Hd (HBB3.out.trans ((below_alloc w3 (.cells #[.int .i64 la, .int .i64 lb, .int .i64 lm] 68)).mono HBB3.out.size))
   have hbl : w.heap.size + 1 < w3.heap.size := HY3.out.lt
   have hab3 : ad.block < w3.heap.size := by have := HBB3.out.size; omega
   simp only [Int.natCast_succ] at *
   clear he ht' e1 e2 e3 hL hA hB hk hk1 hab
   by_cases g1 : a < la
   · have HR : Hid (okE n (lastE es (j + 1)) (a, b, m) = 9) := HR0.out.trans (if_pos (.inl g1))
     go_wp2
     go_ret
     exact ⟨ret_i HR.out.symm, HB4.out⟩
   · by_cases g2 : a = la
     · subst g2
       have t2 : (a == a) = true := by simp
       by_cases g3 : b <= lb
       · have HR : Hid (okE n (lastE es (j + 1)) (a, b, m) = 9) := HR0.out.trans (if_pos (.inr ⟨rfl, g3⟩))
         go_wp2
         go_ret
         exact ⟨ret_i HR.out.symm, HB4.out⟩
       · have HR : Hid (okE n (lastE es (j + 1)) (a, b, m) = 0) := HR0.out.trans (if_neg (by omega))
         go_wp2
         go_ret
         exact ⟨ret_i HR.out.symm, HB4.out⟩
     · have t2 : (a == la) = false := by simpa using g2
       have HR : Hid (okE n (lastE es (j + 1)) (a, b, m) = 0) := HR0.out.trans (if_neg (by omega))
       go_wp2
       go_ret
       exact ⟨ret_i HR.out.symm, HB4.out⟩

theorem lastE_succ {es : List Tri} {k : Nat} {t : Tri} (h : es[k]? = some t) : lastE es (k + 1) = (t.1, t.2.1) := by
 show ((es.getD k (0, 0, 0)).1, (es.getD k (0, 0, 0)).2.1) = _
 rw [List.getD_eq_getElem?_getD, h]; rfl
theorem rgCheck_any (g : Value) (n : Int) (es : List Tri) (w : World) (hg : GV w g n es) :
   Calls Tryz.prog 55 #[g] w fun e w' => e = .returned (.int .i64 (gcheckE n es)) /\ Below w.heap.size w w' := by
 obtain ⟨A, c, rfl, hlc, hc, hcell⟩ := hg.open_
 obtain ⟨W0, hW0⟩ : ∃ W0, W0 = w.alloc (.cells #[.int .i64 n, .slice A es.length c] 25) := ⟨_, rfl⟩
 have hb0 : Below w.heap.size w W0 := by rw [hW0]; exact below_alloc w _
 have hx0 : BL W0 w.heap.size 25 [.int .i64 n, .slice A es.length c] := by rw [hW0]; exact BL.new' w _ _
 have HX0 := Hd hx0
 have HB0 := Hd hb0
 have HG := Hd hg
 have HW0 := Hd hW0
 have HCe := Hd hcell
 have x0 := hx0.cell 0
 have x1 := hx0.cell 1
 rw [hW0] at x0 x1
 clear hg hcell hb0 hx0 hW0
 by_cases h1 : n < 1
 · have HR : Hid (gcheckE n es = 2) := by show _ = _; unfold gcheckE; rw [if_pos (.inl h1)]
   go_enter Tryz.func55, Tryz.ntmps55
   go_wp2
   go_ret
   exact ⟨ret_i HR.out.symm, below_alloc w _⟩
 by_cases h2 : 12 < n
 · have HR : Hid (gcheckE n es = 2) := by show _ = _; unfold gcheckE; rw [if_pos (.inr h2)]
   go_enter Tryz.func55, Tryz.ntmps55
   go_wp2
   go_ret
   exact ⟨ret_i HR.out.symm, below_alloc w _⟩
 have HE := Hd (show gcheckE n es = gcheckL n (-1, -1) es by unfold gcheckE; rw [if_neg (by omega)])
 go_enter Tryz.func55, Tryz.ntmps55
 go_wp2_with fail
 rw [<- HW0.out]
 clear x0 x1
 go_loopw [3] (fun i wr => ∃ k : Nat, k <= es.length /\ i = .int .i64 (k : Int) /\ Hid (gcheckL n (lastE es k) (es.drop k) = gcheckL n (-1, -1) es) /\ Hid (BL wr w.heap.size 25 [.int .i64 n, .slice A es.length c]) /\ Hid (Below w.heap.size w wr)) (fun i _ => es.length - (intOf i).toNat)
 case atStart => exact ⟨0, Nat.zero_le _, rfl, rfl, HX0.out, HB0.out⟩
 case round =>
   obtain ⟨k, hk, rfl, hE, hx, hb⟩ := hrel
   have y0 := hx.out.cell 0
   have y1 := hx.out.cell 1
   by_cases hlt : k < es.length
   · obtain ⟨t, ht⟩ : ∃ t, es[k]? = some t := ⟨es[k], List.getElem?_eq_getElem hlt⟩
     have HEd := Hd (edge_any _ n es k t wr (HG.out.below hb.out) ht)
     have hd : es.drop k = t :: es.drop (k + 1) := by
       obtain ⟨h, rfl⟩ := List.getElem?_eq_some_iff.1 ht
       exact List.drop_eq_getElem_cons h
     by_cases ho : okE n (lastE es k) t = 0
     · rw [ho] at HEd
       have HE2 : Hid (gcheckL n (lastE es (k + 1)) (es.drop (k + 1)) = gcheckL n (-1, -1) es) := by
         show _ = _
         rw [<- hE.out, hd, lastE_succ ht]
         conv => rhs; unfold gcheckL
         rw [if_neg (by simpa using ho)]
       clear ho ht hd hE
       go_wp2_with fail
       refine HEd.out.mono ?_
       rintro e w1 ⟨rfl, hb1⟩
       have HX1 := Hd (hx.out.bel hb1)
       have HB1 := Hd (hb.out.trans (hb1.mono hb.out.size))
       clear hb1
       go_wp2
       go_roundw
       case rel => exact ⟨k + 1, by omega, by go_num, HE2.out, HX1.out, HB1.out⟩
       case measure => simp [intOf]; omega
     · obtain ⟨r, hr⟩ : ∃ r, r = okE n (lastE es k) t := ⟨_, rfl⟩
       have HR : Hid (gcheckE n es = r) := by
         show _ = _
         rw [HE.out, <- hE.out, hd]
         unfold gcheckL
         rw [if_pos ho, hr]
       rw [<- hr] at HEd ho
       have t1 : (r != 0) = true := by simpa using ho
       clear ho ht hd hE hr
       go_wp2_with fail
       refine HEd.out.mono ?_
       rintro e w1 ⟨rfl, hb1⟩
       have HB1 := Hd (hb.out.trans (hb1.mono hb.out.size))
       clear hb1
       go_wp2
       go_ret
       exact ⟨ret_i HR.out.symm, HB1.out⟩
   · have HR : Hid (gcheckE n es = 0) := by
       show _ = _
       rw [HE.out, <- hE.out, List.drop_of_length_le (by omega)]
       rfl
     go_wp2
     go_ret
     exact ⟨ret_i HR.out.symm, hb.out⟩
theorem wpList_append' {P : Program} {ops : Array Oper} {rest : List Oper} {o : Oper} {a : Act} {w : World} {Q : Exit -> Act -> World -> Prop} (hgd : o.guard = none) (s x : Operand) (t : TypeId)
   (ho : o.op = .call { callee := .builtin .append, args := #[s, x], argTypes := #[t, t] }) (vs vx : Value) (hs : a.eval s = vs) (hx : a.eval x = vx) (v' : Value) (w' : World)
   (hrun : (Builtin.append_ #[t, t] o.type #[vs, vx]).run P w = .ok v' w') (h : wpList P ops Q rest (a.put o.dst v') w') : wpList P ops Q (o :: rest) a w := by
 refine wpList_plain hgd fun K hK => ?_
 unfold Oper.wp execOp
 simp only [ho, resolve, invoke, builtin, Sem.run_bind, Sem.run_pure, Result.andThen_ok, List.map_toArray, List.map_cons, List.map_nil, hs, hx, hrun]
 exact hK _ _ h
theorem step_append' {P : Program} {w : World} {ops : Array Oper} {o : Oper} {a : Act} {K : Act -> World -> Prop} {Q : Exit -> Act -> World -> Prop} {E : Prop} (hgd : o.guard = none) (s x : Operand) (t : TypeId)
   (ho : o.op = .call { callee := .builtin .append, args := #[s, x], argTypes := #[t, t] }) (vs vx : Value) (hs : a.eval s = vs) (hx : a.eval x = vx) (v' : Value) (w' : World)
   (hrun : (Builtin.append_ #[t, t] o.type #[vs, vx]).run P w = .ok v' w') (h : K (a.put o.dst v') w') : if Region.wanted o (yielded ops a.tmps) = true then Oper.wp P o a w K Q else E := by
 have hw : Region.wanted o (yielded ops a.tmps) = true := by simp [Region.wanted, hgd]
 rw [if_pos hw]
 unfold Oper.wp execOp
 simp only [ho, resolve, invoke, builtin, Sem.run_bind, Sem.run_pure, Result.andThen_ok, List.map_toArray, List.map_cons, List.map_nil, hs, hx, hrun]
 exact h

def btwE : List Tri -> Int -> Int -> Int
 | [], _, _ => 0
 | t :: r, a, b => if t.1 = min a b /\ t.2.1 = max a b then t.2.2 else btwE r a b
theorem btw_le {n : Nat} {es : List Tri} (hE : Edges n es) (a b : Int) : 0 <= btwE es a b /\ btwE es a b <= 50 := by
 have : ∀ l : List Tri, (∀ t ∈ l, 1 <= t.2.2 /\ t.2.2 <= 50) -> 0 <= btwE l a b /\ btwE l a b <= 50 := by
   intro l
   induction l with
   | nil => intro _; exact ⟨Int.le_refl 0, by show (0 : Int) <= 50; omega⟩
   | cons t r ih =>
     intro h
     rw [btwE]
     split
     · have := h t (by simp); omega
     · exact ih fun x hx => h x (List.mem_cons_of_mem _ hx)
 exact this es hE.mult
theorem btw_wgt {n : Nat} {es : List Tri} (hE : Edges n es) {u v : Nat} (huv : u ≠ v) : btwE es (u : Int) (v : Int) = wgt es u v := by
 obtain ⟨hlo, -, hord⟩ := hE
 induction es with
 | nil => rfl
 | cons t r ih =>
   have hl := hlo t (by simp)
   rw [btwE, show wgt (t :: r) u v = ew t u v + wgt r u v from rfl]
   have ih' := ih (fun x hx => hlo x (List.mem_cons_of_mem _ hx)) (List.pairwise_cons.1 hord).2
   by_cases h : t.1 = min (u : Int) v /\ t.2.1 = max (u : Int) v
   · rw [if_pos h]
     have e : ew t u v = t.2.2 := by unfold ew; rw [if_pos ⟨by omega, by omega⟩]
     have z : wgt r u v = 0 := by
       have hz : ∀ l : List Tri, (∀ s ∈ l, LexLt t s) -> (∀ s ∈ l, s.1 <= s.2.1) -> wgt l u v = 0 := by
         intro l
         induction l with
         | nil => intro _ _; rfl
         | cons s l ihl =>
           intro h1 h2
           have a1 := h1 s (by simp)
           have a2 := h2 s (by simp)
           unfold LexLt at a1
           rw [show wgt (s :: l) u v = ew s u v + wgt l u v from rfl, ihl (fun x hx => h1 x (List.mem_cons_of_mem _ hx)) (fun x hx => h2 x (List.mem_cons_of_mem _ hx))]
           unfold ew
           rw [if_neg (by omega)]; rfl
       exact hz r (List.pairwise_cons.1 hord).1 fun s hs => (hlo s (List.mem_cons_of_mem _ hs)).2.1
     omega
   · rw [if_neg h, ih']
     have e : ew t u v = 0 := by unfold ew; rw [if_neg (by omega)]
     omega
theorem between_any (g : Value) (n : Int) (es : List Tri) (a b : Int) (w : World) (hg : GV w g n es) :
   Calls Tryz.prog 196 #[g, .int .i64 a, .int .i64 b] w fun e w' => e = .returned (.int .i64 (btwE es a b)) /\ Below w.heap.size w w' := by
 obtain ⟨A, c, rfl, hlc, hc, hcell⟩ := hg.open_
 obtain ⟨W0, hW0⟩ : ∃ W0, W0 = w.alloc (.cells #[.int .i64 n, .slice A es.length c] 25) := ⟨_, rfl⟩
 have hb0 : Below w.heap.size w W0 := by rw [hW0]; exact below_alloc w _
 have hx0 : BL W0 w.heap.size 25 [.int .i64 n, .slice A es.length c] := by rw [hW0]; exact BL.new' w _ _
 have HX0 := Hd hx0
 have HB0 := Hd hb0
 have HW0 := Hd hW0
 have HCe := Hd hcell
 clear hg hcell hb0 hx0 hW0
 go_enter Tryz.func196, Tryz.ntmps196
 go_wp2_with fail
 rw [<- HW0.out]
 go_loopw [7] (fun i wr => ∃ k : Nat, k <= es.length /\ i = .int .i64 (k : Int) /\ Hid (btwE (es.drop k) a b = btwE es a b) /\ Hid (BL wr w.heap.size 25 [.int .i64 n, .slice A es.length c]) /\ Hid (Below w.heap.size w wr)) (fun i _ => es.length - (intOf i).toNat)
 case atStart => exact ⟨0, Nat.zero_le _, rfl, rfl, HX0.out, HB0.out⟩
 case round =>
   obtain ⟨k, hk, rfl, hE, hx, hb⟩ := hrel
   have y1 := hx.out.cell 1
   by_cases hlt : k < es.length
   · obtain ⟨ad, ea, eb, m, rfl, hab, ht, c1, c2, c3⟩ := HCe.out k hlt
     obtain ⟨d1, d2, d3⟩ := tri_cells hb.out hab c1 c2 c3
     have hd : es.drop k = (ea, eb, m) :: es.drop (k + 1) := by
       obtain ⟨h, h'⟩ := List.getElem?_eq_some_iff.1 ht.out
       rw [<- h']; exact List.drop_eq_getElem_cons h
     have HB1 := Hd (hb.out.trans ((below_alloc wr (.cells #[.int .i64 ea, .int .i64 eb, .int .i64 m] 68)).mono hb.out.size))
     have HX1 := Hd (hx.out.bel (below_alloc wr (.cells #[.int .i64 ea, .int .i64 eb, .int .i64 m] 68)))
     have hrec : btwE (es.drop k) a b = if ea = min a b /\ eb = max a b then m else btwE (es.drop (k + 1)) a b := by rw [hd, btwE]
     have habr : ad.block < wr.heap.size := by have := hb.out.size; omega
     have hxl := hx.out.lt
     clear hd ht c1 c2 c3
     by_cases h1 : ea = min a b
     · have t1 : (ea == min a b) = true := by simpa using h1
       by_cases h2 : eb = max a b
       · have t2 : (eb == max a b) = true := by simpa using h2
         have HR : Hid (btwE es a b = m) := by show _ = _; rw [<- hE.out, hrec, if_pos ⟨h1, h2⟩]
         clear h1 h2 hrec hx hb hE
         go_wp2
         go_ret
         exact ⟨ret_i HR.out.symm, HB1.out⟩
       · have t2 : (eb == max a b) = false := by simpa using h2
         have HE2 : Hid (btwE (es.drop (k + 1)) a b = btwE es a b) := by show _ = _; rw [<- hE.out, hrec, if_neg (fun h => h2 h.2)]
         clear h1 h2 hrec hx hb hE
         go_wp2
         go_roundw
         case rel => exact ⟨k + 1, by omega, by go_num, HE2.out, HX1.out, HB1.out⟩
         case measure => simp [intOf]; omega
     · have t1 : (ea == min a b) = false := by simpa using h1
       have HE2 : Hid (btwE (es.drop (k + 1)) a b = btwE es a b) := by show _ = _; rw [<- hE.out, hrec, if_neg (fun h => h1 h.1)]
       clear h1 hrec hx hb hE
       go_wp2
       go_roundw
       case rel => exact ⟨k + 1, by omega, by go_num, HE2.out, HX1.out, HB1.out⟩
       case measure => simp [intOf]; omega
   · have HR : Hid (btwE es a b = 0) := by show _ = _; rw [<- hE.out, List.drop_of_length_le (by omega)]; rfl
     go_wp2
     go_ret
     exact ⟨ret_i HR.out.symm, hb.out⟩

def bAt (bs : List Bool) (u : Nat) : Bool := bs.getD u false
theorem bAt_set (bs : List Bool) (b u : Nat) (hb : b < bs.length) : bAt (bs.set b true) u = if u = b then true else bAt bs u := by
 unfold bAt
 rw [List.getD_eq_getElem?_getD, List.getElem?_set]
 by_cases h : b = u
 · subst h; simp [hb]
 · rw [if_neg h, if_neg (fun e => h e.symm), <- List.getD_eq_getElem?_getD]
def Snd (n : Nat) (es : List Tri) (v : Nat) (bs : List Bool) : Prop := bAt bs v = true /\ ∀ A : Nat -> Bool, A v = true -> (∀ a b, a < n -> b < n -> A a = true -> 0 < wgt es a b -> A b = true) -> ∀ u, u < n -> bAt bs u = true -> A u = true
theorem Snd.step {n : Nat} {es : List Tri} {v : Nat} {bs : List Bool} (h : Snd n es v bs) (hl : bs.length = n) {a b : Nat} (ha : a < n) (hb : b < n) (h1 : bAt bs a = true) (h2 : a ≠ b -> 0 < wgt es a b) : Snd n es v (bs.set b true) := by
 refine ⟨by rw [bAt_set _ _ _ (by omega)]; split; rfl; exact h.1, fun A hA hc u hu hbu => ?_⟩
 rw [bAt_set _ _ _ (by omega)] at hbu
 by_cases e : u = b
 · subst e
   have hAa := h.2 A hA hc a ha h1
   by_cases hab : a = u
   · subst hab; exact hAa
   · exact hc a u ha hu hAa (h2 hab)
 · rw [if_neg e] at hbu; exact h.2 A hA hc u hu hbu
def Rch (n : Nat) (es : List Tri) (v r : Nat) (bs : List Bool) : Prop := bs.length = n /\ Snd n es v bs /\ (Conn n (wgt es) -> min n (r + 1) <= countN n (bAt bs))
def Mid8 (n : Nat) (es : List Tri) (v : Nat) (bs0 : List Bool) (a b : Nat) (bs : List Bool) : Prop :=
 bs.length = n /\ Snd n es v bs /\ (∀ u, bAt bs0 u = true -> bAt bs u = true) /\ (∀ a' b', a' < a -> b' < n -> bAt bs0 a' = true -> 0 < wgt es a' b' -> bAt bs b' = true) /\ ∀ b', b' < b -> bAt bs0 a = true -> 0 < wgt es a b' -> bAt bs b' = true
theorem Rch.start {n : Nat} {es : List Tri} {v : Nat} (hv : v < n) : Rch n es v 0 ((List.replicate n false).set v true) := by
 refine ⟨by simp, ⟨by rw [bAt_set _ _ _ (by simpa using hv), if_pos rfl], fun A hA _ u hu hb => ?_⟩, fun _ => ?_⟩
 · rw [bAt_set _ _ _ (by simpa using hv)] at hb
   by_cases e : u = v
   · rw [e]; exact hA
   · rw [if_neg e] at hb
     unfold bAt at hb
     rw [List.getD_eq_getElem?_getD, List.getElem?_replicate] at hb
     split at hb <;> cases hb
 · have : countN n (fun _ => false) < countN n (bAt ((List.replicate n false).set v true)) := countN_lt (fun _ _ h => by cases h) hv rfl (by rw [bAt_set _ _ _ (by simpa using hv), if_pos rfl])
   omega
theorem Rch.begin {n : Nat} {es : List Tri} {v r : Nat} {bs : List Bool} (h : Rch n es v r bs) : Mid8 n es v bs 0 0 bs := ⟨h.1, h.2.1, fun _ h => h, fun _ _ h => by omega, fun _ h => by omega⟩
theorem Mid8.skip {n : Nat} {es : List Tri} {v : Nat} {bs0 : List Bool} {a b : Nat} {bs : List Bool} (h : Mid8 n es v bs0 a b bs) (hw : bAt bs a = true -> ¬ 0 < wgt es a b) : Mid8 n es v bs0 a (b + 1) bs := by
 obtain ⟨h1, h2, h3, h4, h5⟩ := h
 refine ⟨h1, h2, h3, h4, fun b' hb' ha hw' => ?_⟩
 by_cases e : b' = b
 · subst e; exact absurd hw' (hw (h3 a ha))
 · exact h5 b' (by omega) ha hw'
theorem Mid8.mark {n : Nat} {es : List Tri} {v : Nat} {bs0 : List Bool} {a b : Nat} {bs : List Bool} (h : Mid8 n es v bs0 a b bs) (ha : a < n) (hb : b < n) (h1 : bAt bs a = true) (h2 : a ≠ b -> 0 < wgt es a b) : Mid8 n es v bs0 a (b + 1) (bs.set b true) := by
 obtain ⟨k1, k2, k3, k4, k5⟩ := h
 have hs : ∀ u, bAt bs u = true -> bAt (bs.set b true) u = true := fun u hu => by rw [bAt_set _ _ _ (by omega)]; split; rfl; exact hu
 refine ⟨by simpa using k1, k2.step k1 ha hb h1 h2, fun u hu => hs u (k3 u hu), fun a' b' h1 h2 h3 h4 => hs b' (k4 a' b' h1 h2 h3 h4), fun b' hb' ha' hw' => ?_⟩
 by_cases e : b' = b
 · subst e; rw [bAt_set _ _ _ (by omega), if_pos rfl]
 · exact hs b' (k5 b' (by omega) ha' hw')
theorem Mid8.next {n : Nat} {es : List Tri} {v : Nat} {bs0 : List Bool} {a : Nat} {bs : List Bool} (h : Mid8 n es v bs0 a n bs) : Mid8 n es v bs0 (a + 1) 0 bs := by
 obtain ⟨k1, k2, k3, k4, k5⟩ := h
 refine ⟨k1, k2, k3, fun a' b' h1 h2 h3 h4 => ?_, fun _ h => by omega⟩
 by_cases e : a' = a
 · subst e; exact k5 b' h2 h3 h4
 · exact k4 a' b' (by omega) h2 h3 h4
theorem Mid8.end_ {n : Nat} {es : List Tri} {v r : Nat} {bs0 bs : List Bool} (h0 : Rch n es v r bs0) (h : Mid8 n es v bs0 n 0 bs) (hv : v < n) : Rch n es v (r + 1) bs := by
 obtain ⟨k1, k2, k3, k4, -⟩ := h
 refine ⟨k1, k2, fun hc => ?_⟩
 have c0 := h0.2.2 hc
 have cm := countN_mono (n := n) (p := bAt bs0) (p' := bAt bs) fun u _ hu => k3 u hu
 by_cases hall : ∃ x, x < n /\ bAt bs0 x = false
 · obtain ⟨a, b, ha, hb, hA, hB, hw⟩ := hc (bAt bs0) ⟨v, hv, h0.2.1.1⟩ hall
   have := countN_lt (n := n) (p := bAt bs0) (p' := bAt bs) (fun u _ hu => k3 u hu) hb hB (k4 a b ha hb hA hw)
   omega
 · have : n <= countN n (bAt bs0) := by
     have hA : ∀ x, x < n -> bAt bs0 x = true := fun x hx => by
       cases e : bAt bs0 x
       · exact absurd ⟨x, hx, e⟩ hall
       · rfl
     have : countN n (fun _ => true) <= countN n (bAt bs0) := countN_mono fun u hu _ => hA u hu
     have e : ∀ m, countN m (fun _ => true) = m := fun m => by induction m with
       | zero => rfl
       | succ m ih => simp [countN, ih]
     rw [e] at this; exact this
   omega
theorem Rch.all {n : Nat} {es : List Tri} {v : Nat} {bs : List Bool} (h : Rch n es v n bs) (hc : Conn n (wgt es)) : ∀ u, u < n -> bAt bs u = true :=
 countN_all (by have := h.2.2 hc; omega)
theorem rch_conn {n : Nat} {es : List Tri} {bs : List Bool} (h : Rch n es 0 n bs) : (∀ u, u < n -> bAt bs u = true) ↔ Conn n (wgt es) := by
 refine ⟨fun hall A h1 h2 => ?_, fun hc => h.all hc⟩
 have key : ∀ B : Nat -> Bool, B 0 = true -> (∃ x, x < n /\ B x = false) -> ∃ a b, a < n /\ b < n /\ B a = true /\ B b = false /\ 0 < wgt es a b := by
   intro B hB ⟨x, hx, hxB⟩
   by_cases hcl : ∀ a b, a < n -> b < n -> B a = true -> 0 < wgt es a b -> B b = true
   · have := h.2.1.2 B hB hcl x hx (hall x hx)
     rw [hxB] at this; cases this
   · simp only [Classical.not_forall] at hcl
     obtain ⟨a, b, ha, hb, hA, hw, hbB⟩ := hcl
     exact ⟨a, b, ha, hb, hA, by simpa using hbB, hw⟩
 cases hA : A 0
 · obtain ⟨a, b, ha, hb, e1, e2, hw⟩ := key (fun u => !A u) (by simp [hA]) (by obtain ⟨x, hx, hxA⟩ := h1; exact ⟨x, hx, by simp [hxA]⟩)
   exact ⟨b, a, hb, ha, by simpa using e2, by simpa using e1, by rw [wgt_sym]; exact hw⟩
 · exact key A hA h2
end Go.Proofs.YteamhbohgoclgaaGreatDoor
