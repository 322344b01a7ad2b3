/- Contracts of the references' added and taken of decimal digits. -/
import Derived.Test.YteamhbohgoclgaaGreatDoorR12
set_option maxRecDepth 100000
set_option maxHeartbeats 16000000
namespace Go.Proofs.YteamhbohgoclgaaGreatDoor
open Go.RowKit Go.Shelf

theorem getD_end (l : List Int) {k : Nat} (h : l.length <= k) : l.getD k 0 = 0 := by rw [List.getD_eq_getElem?_getD, List.getElem?_eq_none h]; rfl
theorem getD_snoc_last (l : List Int) (d : Int) : (l ++ [d]).getD l.length 0 = d := by rw [List.getD_eq_getElem?_getD, List.getElem?_append_right (Nat.le_refl _)]; simp
theorem add_step {a b out : List Int} {i : Nat} {c : Int} (hl : out.length = i) (hd : Dig out) (hda : Dig a) (hdb : Dig b) (hc0 : 0 <= c) (hc1 : c <= 1) (hv : dval out + p10 i * c = dval (a.take i) + dval (b.take i)) :
   (out ++ [(c + (a.getD i 0 + b.getD i 0)) % 10]).length = i + 1 /\ Dig (out ++ [(c + (a.getD i 0 + b.getD i 0)) % 10]) /\ 0 <= (c + (a.getD i 0 + b.getD i 0)) / 10 /\ (c + (a.getD i 0 + b.getD i 0)) / 10 <= 1 /\
     dval (out ++ [(c + (a.getD i 0 + b.getD i 0)) % 10]) + p10 (i + 1) * ((c + (a.getD i 0 + b.getD i 0)) / 10) = dval (a.take (i + 1)) + dval (b.take (i + 1)) := by
 have h1 := hda i
 have h2 := hdb i
 rw [dval_snoc, dval_take_succ, dval_take_succ, hl, p10]
 generalize a.getD i 0 = x at *
 generalize b.getD i 0 = y at *
 refine ⟨by simp [hl], hd.snoc (by omega) (by omega), by omega, by omega, ?_⟩
 have e : c + (x + y) = 10 * ((c + (x + y)) / 10) + (c + (x + y)) % 10 := by omega
 generalize (c + (x + y)) / 10 = q at *
 generalize (c + (x + y)) % 10 = r at *
 have e2 : p10 i * (c + (x + y)) = p10 i * (10 * q + r) := by rw [e]
 grind
theorem add_done {a b out : List Int} {i : Nat} (hl : out.length = i) (hd : Dig out) (hda : Dig a) (hdb : Dig b) (hca : Can a) (hcb : Can b) (ha : a.length <= i) (hb : b.length <= i) (hv : dval out + p10 i * 0 = dval (a.take i) + dval (b.take i))
   (ht : i <= a.length \/ i <= b.length \/ out.getD (i - 1) 0 ≠ 0) : Can out /\ dval out = dval a + dval b := by
 rw [List.take_of_length_le ha, List.take_of_length_le hb, Int.mul_zero, Int.add_zero] at hv
 refine ⟨?_, hv⟩
 by_cases e : out = []
 · exact .inl e
 have hn : i ≠ 0 := fun h => e (List.eq_nil_of_length_eq_zero (by omega))
 have b1 := dval_bd hda
 have b2 := dval_bd hdb
 rcases ht with h | h | h
 · have := can_ge hda hca (fun h0 => by rw [h0] at h; simp at h; omega)
   exact can_of_ge hd e (by rw [hl, show i - 1 = a.length - 1 by omega]; omega)
 · have := can_ge hdb hcb (fun h0 => by rw [h0] at h; simp at h; omega)
   exact can_of_ge hd e (by rw [hl, show i - 1 = b.length - 1 by omega]; omega)
 · exact .inr (by rw [hl]; exact h)
theorem rem_at {s : Int} (h : 0 <= s) : s.tmod 10 = s % 10 := Int.tmod_eq_emod_of_nonneg h
theorem quo_at {s : Int} (h : 0 <= s) : s.tdiv 10 = s / 10 := Int.tdiv_eq_ediv_of_nonneg h

theorem tak_step {a b out : List Int} {i : Nat} {c z q : Int} (hl : out.length = i) (hd : Dig out) (hv : dval out - p10 i * c = dval (a.take i) - dval (b.take i)) (hz0 : 0 <= z) (hz9 : z <= 9) (he : z = a.getD i 0 - b.getD i 0 - c + 10 * q) :
   (out ++ [z]).length = i + 1 /\ Dig (out ++ [z]) /\ dval (out ++ [z]) - p10 (i + 1) * q = dval (a.take (i + 1)) - dval (b.take (i + 1)) := by
 refine ⟨by simp [hl], hd.snoc hz0 hz9, ?_⟩
 rw [dval_snoc, dval_take_succ, dval_take_succ, hl, p10, he]
 grind
theorem tak_done {a b out : List Int} {c : Int} (hl : out.length = a.length) (hd : Dig out) (hda : Dig a) (hdb : Dig b) (hcb : Can b) (hle : dval b <= dval a) (hc0 : 0 <= c) (hc1 : c <= 1) (hv : dval out - p10 a.length * c = dval (a.take a.length) - dval (b.take a.length)) : dval out = dval a - dval b := by
 have hlen : b.length <= a.length := by
   apply Classical.byContradiction
   intro h
   have := len_lt hda hdb hcb (by omega)
   omega
 rw [List.take_of_length_le (Nat.le_refl _), List.take_of_length_le hlen] at hv
 have := dval_bd hd
 rw [hl] at this
 have : c = 0 := by
   apply Classical.byContradiction
   intro h
   obtain rfl : c = 1 := by omega
   omega
 subst this
 omega

theorem chrs_succ {l : List Int} {i : Nat} {d : Int} (h : l[i]? = some d) : chrs (l.take (i + 1)) = UInt8.ofNat (48 + d).toNat :: chrs (l.take i) := by
 unfold chrs
 rw [List.take_add_one, h]
 simp

theorem zs_text {l : List Int} {m : Bool} (hd : Dig l) (hc : Can l) : ZS (.string ⟨(textL l m).toArray⟩) (sgZ l m) := by
 by_cases e : l = []
 · subst e
   exact ⟨[], false, by simp [textL], hd, hc, fun _ => rfl, by cases m <;> simp [sgZ, dval]⟩
 · exact ⟨l, m, rfl, hd, hc, fun h => absurd h e, rfl⟩
theorem sgz_neg {l : List Int} {m : Bool} (hd : Dig l) (hc : Can l) (hm : l = [] -> m = false) : decide (sgZ l m < 0) = m := by
 have := dval_bd hd
 cases m
 · exact decide_eq_false (by unfold sgZ; simp; omega)
 · refine decide_eq_true ?_
   have h1 : dval l ≠ 0 := fun h => by have := hm (can_nil hd hc h); cases this
   unfold sgZ; simp; omega
theorem sgz_not (l : List Int) (m : Bool) : sgZ l (!m) = - sgZ l m := by cases m <;> simp [sgZ]
theorem zMinus_any (l : List Int) (m : Bool) (w : World) (hd : Dig l) (hm : l = [] -> m = false) :
   Calls Tryz.prog 136 #[.string ⟨(textL l m).toArray⟩] w fun e w' => e = .returned (.bool m) /\ w = w' := by
 have hp := text_pos l m
 have hmin := text_minus hd m hm
 generalize textL l m = bs at *
 have hbj : bs[0]? = some (bs.getD 0 0) := by rw [List.getD_eq_getElem?_getD, List.getElem?_eq_getElem hp]; rfl
 obtain ⟨b, hb⟩ : ∃ b, b = bs.getD 0 0 := ⟨_, rfl⟩
 rw [<- hb] at hbj hmin
 obtain ⟨S, hS⟩ : ∃ S, S = ByteArray.mk bs.toArray := ⟨_, rfl⟩
 have hix : ∀ W : World, (Instr.index 132 (.string S) (.int .i64 0)).run Tryz.prog W = .ok (.int .u8 (b.toNat : Int)) W := fun W => by
   obtain ⟨hj, e⟩ := List.getElem?_eq_some_iff.1 hbj
   rw [run_index_string _ _ _ _ _ Tryz.underlying132, dif_pos (by subst hS; simp [ByteArray.size]; omega)]
   subst hS
   simp [ByteArray.getElem_eq_getElem_data, e]
 rw [<- hS]
 have hbm : ((b.toNat : Int) == 45) = m := by
   rw [<- hmin]
   by_cases e : b = 45
   · rw [e]; rfl
   · have h1 : (b == 45) = false := by simpa using e
     rw [h1, beq_eq_false_iff_ne]
     intro h
     exact e (UInt8.toNat_inj.1 (by have : (45 : UInt8).toNat = 45 := rfl; omega))
 clear hS hb hbj hp hmin
 generalize (b.toNat : Int) = z at *
 go_enter Tryz.func136, Tryz.ntmps136
 go_wp2
 go_ret
 exact ⟨by rw [<- hbm]; rfl, rfl⟩
theorem plus_same {l1 l2 out : List Int} {m : Bool} (h : dval out = dval l1 + dval l2) : sgZ out m = sgZ l1 m + sgZ l2 m := by cases m <;> simp [sgZ] <;> omega
theorem plus_less {l1 l2 out : List Int} {m1 m2 : Bool} (hne : m1 ≠ m2) (h : dval out = dval l2 - dval l1) : sgZ out m2 = sgZ l1 m1 + sgZ l2 m2 := by cases m1 <;> cases m2 <;> simp [sgZ] at * <;> omega
theorem plus_more {l1 l2 out : List Int} {m1 m2 : Bool} (hne : m1 ≠ m2) (h : dval out = dval l1 - dval l2) : sgZ out m1 = sgZ l1 m1 + sgZ l2 m2 := by cases m1 <;> cases m2 <;> simp [sgZ] at * <;> omega

theorem zs_zero {S : ByteArray} {z : Int} (h : ZS (.string S) z) : (S.toList == [48]) = decide (z = 0) := by
 obtain ⟨l, m, he, hd, hc, hm, rfl⟩ := h
 simp only [Value.string.injEq] at he
 subst he
 rw [ByteArray.toList_mk]
 have := text_zero hd hc m hm
 by_cases e : sgZ l m = 0
 · rw [decide_eq_true e, this.2 e]; rfl
 · rw [decide_eq_false e]
   have h2 : textL l m ≠ [48] := fun h => e (this.1 h)
   simpa using h2
theorem zs_str {v : Value} {z : Int} (h : ZS v z) : ∃ S, v = .string S /\ ZS (.string S) z /\ (S.toList == [48]) = decide (z = 0) := by
 obtain ⟨l, m, rfl, h2⟩ := h
 have h3 : ZS (.string ⟨(textL l m).toArray⟩) z := ⟨l, m, rfl, h2⟩
 exact ⟨_, rfl, h3, zs_zero h3⟩
theorem zMinus2_any (v : Value) (z : Int) (w : World) (h : ZS v z) : Calls Tryz.prog 136 #[v] w fun e w' => e = .returned (.bool (decide (z < 0))) /\ w = w' := by
 obtain ⟨l, m, rfl, hd, hc, hm, rfl⟩ := h
 rw [sgz_neg hd hc hm]
 exact zMinus_any l m w hd hm
end Go.Proofs.YteamhbohgoclgaaGreatDoor
