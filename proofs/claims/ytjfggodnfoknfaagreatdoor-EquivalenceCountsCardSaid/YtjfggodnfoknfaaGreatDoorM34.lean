/- Contract of the reference's Of: the decimal text of an int.
   The rule of Cramer, as the reference uses it: what its tables' determinants tell. No program in sight.
   Contracts of the references' Total and Solve.
   Contracts of the references' Tight, Calm, Greatest.
   Contract of the reference's Calms: all superstable configurations.
   What Normal and Principal of the reference decide, in plain words. No program in sight.
   The two lists of superstable configurations are the same but for their order, and they are few. No program in sight.
   The function's Classes and the reference's answer alike. No program in sight.
   The law Chains in plain words. -/
import Derived.Test.YtjfggodnfoknfaaGreatDoorM33
set_option maxRecDepth 100000
set_option maxHeartbeats 16000000
namespace Go.Proofs.YtjfggodnfoknfaaGreatDoor
open Go.RowKit Go.Shelf

theorem of_step {l : List Int} {u n : Int} (hd : Dig l) (hu : 0 < u) (hv : dval l + p10 l.length * u = n) :
    Dig (l ++ [u % 10]) ∧ dval (l ++ [u % 10]) + p10 (l ++ [u % 10]).length * (u / 10) = n ∧ (u / 10 = 0 → Can (l ++ [u % 10])) := by
  refine ⟨hd.snoc (by omega) (by omega), ?_, fun h => .inr ?_⟩
  · rw [dval_snoc, len_append1, p10]
    have e : u = 10 * (u / 10) + u % 10 := by omega
    generalize u / 10 = q at *
    generalize u % 10 = r at *
    subst e
    rw [Int.mul_add] at hv
    grind
  · rw [len_append1, Nat.add_sub_cancel, getD_snoc_last]; omega
theorem of_len {l : List Int} {u n : Int} (hd : Dig l) (hu : 0 < u) (hv : dval l + p10 l.length * u = n) (hn : n < 1000000000000000) : l.length ≤ 14 := by
  have h1 := (dval_bd hd).1
  have h2 := Int.mul_le_mul_of_nonneg_left (show 1 ≤ u by omega) (show 0 ≤ p10 l.length by have := p10_pos l.length; omega)
  apply Classical.byContradiction
  intro h
  have h3 := p10_mono (a := 15) (b := l.length) (by omega)
  rw [p15] at h3
  omega
theorem neg_rem {u : Int} (h : 0 ≤ u) : (-u).tmod 10 = -(u % 10) := by rw [Int.neg_tmod, Int.tmod_eq_emod_of_nonneg h]
theorem neg_quo {u : Int} (h : 0 ≤ u) : (-u).tdiv 10 = -(u / 10) := by rw [Int.neg_tdiv, Int.tdiv_eq_ediv_of_nonneg h]
theorem zOf_any (n : Int) (w : World) (hb : B15 n) :
    Calls Tryz.prog 11 #[.int .i64 n] w fun e w' => ∃ v', e = .returned v' ∧ Below w.heap.size w w' ∧ ZS v' n := by
  obtain ⟨i0, hi, hz0, hz1, hz2⟩ := info_parts int_info
  have h48 : (ByteArray.mk #[]).toList = [] := ByteArray.toList_mk []
  have h45 : (ByteArray.mk #[45]).toList = [45] := ByteArray.toList_mk [45]
  have hb2 : -1000000000000000 < n ∧ n < 1000000000000000 := hb
  clear hb
  by_cases hn : 0 ≤ n
  · have hn0 : ¬ n < 0 := by omega
    obtain ⟨n0, hn0e⟩ : ∃ n0, n0 = n := ⟨_, rfl⟩
    have HN0 := Lib.hid hn0e
    clear hn0e
    go_enter Tryz.func11, Tryz.ntmps11
    go_wp2_with fail
    go_loopw [0, 4] (fun tt o wr => ∃ (u : Int) (l : List Int) (vo : Value), vo = o ∧ tt = .int .i64 u ∧ 0 ≤ u ∧ u ≤ n ∧ Hid (OI wr w.heap.size o l) ∧ Hid (Below w.heap.size w wr) ∧ Hid (Dig l) ∧ Hid (dval l + p10 l.length * u = n) ∧ Hid (u = 0 → Can l)) (fun t _ _ => (intOf t).natAbs)
    case atStart => exact ⟨n, [], _, rfl, rfl, hn, Int.le_refl _, OI.nil_ _ _, Below.refl _ _, dig_nil, by simp [Hid, dval, p10], fun _ => .inl rfl⟩
    case round =>
      obtain ⟨u, l, vo, rfl, rfl, hu0, hun, ho, hbw, hd, hv, hc⟩ := hrel
      by_cases hz : u = 0
      · subst hz
        have hvl : dval l = n := by have := hv.out; omega
        have hsg : sgZ l false = n := hvl
        have HT := Lib.hid (zText_any vo l false wr ho.out.rv hd.out (by
          have := can_len hd.out (hc.out rfl) (k := 15) (by rw [p15]; omega)
          omega))
        have HZ := Lib.hid (zs_text (m := false) hd.out (hc.out rfl))
        rw [hsg] at HZ
        clear hvl hsg
        go_wp2_with fail
        refine HT.out.mono ?_
        rintro e w2 ⟨rfl, hb2'⟩
        have HB2 := Lib.hid (hbw.out.trans (hb2'.mono hbw.out.size))
        clear hb2'
        go_wp2
        go_ret
        exact ⟨_, rfl, HB2.out, HZ.out⟩
      · have hu1 : 0 < u := by omega
        obtain ⟨s1, s2, s3⟩ := of_step hd.out hu1 hv.out
        have hl14 := of_len hd.out hu1 hv.out hb2.2
        have S1 := Lib.hid s1
        have S2 := Lib.hid s2
        have S3 := Lib.hid s3
        have hr := rem_at (s := u) hu0
        have hq := quo_at (s := u) hu0
        have hrn : ¬ u % 10 < 0 := by omega
        have hrb : 0 ≤ u % 10 ∧ u % 10 ≤ 9 := by omega
        have hqb : 0 ≤ u / 10 ∧ u / 10 ≤ u ∧ u / 10 < u := by omega
        clear s1 s2 s3
        obtain ⟨hov, hrv, hfin⟩ := OI.snoc ho.out (u%10) hbw.out
        have HOv := Lib.hid hov
        have HRv := Lib.hid hrv
        have HFin := Lib.hid hfin
        have hszB := hbw.out.size
        clear hov hrv hfin
        generalize u % 10 = r at *
        generalize u / 10 = q at *
        go_wp2_with (at_builtin; refine wpList_appendV _ rfl _ _ _ rfl 3 i0 _ 8 Tryz.underlying25 hi hz0 hz1 hz2 rfl w.heap.size _ _ rfl HOv.out _ _ rfl HRv.out (one_ones rfl) (by first | omega | (simp; omega)) (by first | omega | (simp; omega)) (by first | omega | (simp; omega)) ?_; intro v1 w3 hown hg hat; obtain ⟨hf1, hf2⟩ := HFin.out v1 w3 hown hg; have HF1 := Lib.hid hf1; have HF2 := Lib.hid hf2; clear hown hg hat hf1 hf2)
        go_wp2
        go_roundw
        case rel => exact ⟨q, _, _, rfl, rfl, hqb.1, by omega, HF1.out, HF2.out, S1.out, S2.out, S3.out⟩
        case measure => simp [intOf] <;> omega
  · have hn0 : n < 0 := by omega
    obtain ⟨N, rfl⟩ : ∃ N, n = -N := ⟨-n, by omega⟩
    go_enter Tryz.func11, Tryz.ntmps11
    go_wp2_with fail
    go_loopw [0, 4] (fun tt o wr => ∃ (u : Int) (l : List Int) (vo : Value), vo = o ∧ tt = .int .i64 (-u) ∧ 0 ≤ u ∧ u ≤ N ∧ Hid (OI wr w.heap.size o l) ∧ Hid (Below w.heap.size w wr) ∧ Hid (Dig l) ∧ Hid (dval l + p10 l.length * u = N) ∧ Hid (u = 0 → Can l)) (fun t _ _ => (intOf t).natAbs)
    case atStart => exact ⟨N, [], _, rfl, rfl, by omega, Int.le_refl _, OI.nil_ _ _, Below.refl _ _, dig_nil, by simp [Hid, dval, p10], fun _ => .inl rfl⟩
    case round =>
      obtain ⟨u, l, vo, rfl, rfl, hu0, hun, ho, hbw, hd, hv, hc⟩ := hrel
      by_cases hz : u = 0
      · subst hz
        have hvl : dval l = N := by have := hv.out; omega
        have hsg : sgZ l true = -N := by unfold sgZ; rw [if_pos rfl, hvl]
        have hll : 1 ≤ l.length := by
          rcases Nat.eq_zero_or_pos l.length with h | h
          · rw [List.eq_nil_of_length_eq_zero h] at hvl; simp [dval] at hvl; omega
          · exact h
        have HT := Lib.hid (zText_any vo l true wr ho.out.rv hd.out (by
          have := can_len hd.out (hc.out rfl) (k := 15) (by rw [p15]; omega)
          omega))
        have HZ := Lib.hid (zs_text (m := true) hd.out (hc.out rfl))
        obtain ⟨g, cap, rfl⟩ := OV.shape_ ho.out (by simpa using hll)
        simp only [List.length_map] at HT ⊢
        have hlne : ((l.length : Int) == 0) = false := by rw [beq_eq_false_iff_ne]; omega
        rw [hsg] at HZ
        clear hvl hsg
        go_wp2_with fail
        refine HT.out.mono ?_
        rintro e w2 ⟨rfl, hb2'⟩
        have HB2 := Lib.hid (hbw.out.trans (hb2'.mono hbw.out.size))
        clear hb2'
        go_wp2
        go_ret
        exact ⟨_, rfl, HB2.out, HZ.out⟩
      · have hu1 : 0 < u := by omega
        obtain ⟨s1, s2, s3⟩ := of_step hd.out hu1 hv.out
        have hl14 := of_len hd.out hu1 hv.out (by omega)
        have S1 := Lib.hid s1
        have S2 := Lib.hid s2
        have S3 := Lib.hid s3
        have hr := neg_rem hu0
        have hq := neg_quo hu0
        have hrb : 0 ≤ u % 10 ∧ u % 10 ≤ 9 := by omega
        have hqb : 0 ≤ u / 10 ∧ u / 10 ≤ u ∧ u / 10 < u := by omega
        clear s1 s2 s3
        obtain ⟨hov, hrv, hfin⟩ := OI.snoc ho.out (u%10) hbw.out
        have HOv := Lib.hid hov
        have HRv := Lib.hid hrv
        have HFin := Lib.hid hfin
        have hszB := hbw.out.size
        clear hov hrv hfin
        generalize u % 10 = r at *
        generalize u / 10 = q at *
        by_cases hr0 : r = 0
        · subst hr0
          go_wp2_with (at_builtin; refine wpList_appendV _ rfl _ _ _ rfl 3 i0 _ 8 Tryz.underlying25 hi hz0 hz1 hz2 rfl w.heap.size _ _ rfl HOv.out _ _ rfl HRv.out (one_ones rfl) (by first | omega | (simp; omega)) (by first | omega | (simp; omega)) (by first | omega | (simp; omega)) ?_; intro v1 w3 hown hg hat; obtain ⟨hf1, hf2⟩ := HFin.out v1 w3 hown hg; have HF1 := Lib.hid hf1; have HF2 := Lib.hid hf2; clear hown hg hat hf1 hf2)
          go_wp2
          go_roundw
          case rel => exact ⟨q, _, _, rfl, rfl, hqb.1, by omega, HF1.out, HF2.out, S1.out, S2.out, S3.out⟩
          case measure => simp [intOf] <;> omega
        · have hr1 : -r < 0 := by omega
          go_wp2_with (at_builtin; refine wpList_appendV _ rfl _ _ _ rfl 3 i0 _ 8 Tryz.underlying25 hi hz0 hz1 hz2 rfl w.heap.size _ _ rfl HOv.out _ _ rfl HRv.out (one_ones rfl) (by first | omega | (simp; omega)) (by first | omega | (simp; omega)) (by first | omega | (simp; omega)) ?_; intro v1 w3 hown hg hat; obtain ⟨hf1, hf2⟩ := HFin.out v1 w3 hown hg; have HF1 := Lib.hid hf1; have HF2 := Lib.hid hf2; clear hown hg hat hf1 hf2)
          go_wp2
          go_roundw
          case rel => exact ⟨q, _, _, rfl, rfl, hqb.1, by omega, HF1.out, HF2.out, S1.out, S2.out, S3.out⟩
          case measure => simp [intOf] <;> omega
end Go.Proofs.YtjfggodnfoknfaaGreatDoor

namespace Go.Proofs.YtjfggodnfoknfaaGreatDoor

theorem map_getD {α : Type} (f : Nat → α) (m : Nat) (z : α) {i : Nat} (hi : i < m) : ((List.range m).map f).getD i z = f i := by
  simp [List.getD_eq_getElem?_getD, hi]
theorem sumd_len (d : List Int) {n : Nat} (h : d.length = n) : (sumN n fun v => d.getD v 0) = d.sum := by subst h; exact sumN_list d
end Go.Proofs.YtjfggodnfoknfaaGreatDoor

namespace Go.Proofs.YtjfggodnfoknfaaGreatDoor
open Go.RowKit Go.Shelf

theorem sum_take_bd {zs : List Int} {B : Int} (hB : 0 ≤ B) (hb : Bd B zs) (k : Nat) : -(B * k) ≤ (zs.take k).sum ∧ (zs.take k).sum ≤ B * k := by
  induction k with
  | zero => simp
  | succ k ih =>
    rw [List.take_add_one, List.sum_append]
    have h := hb k
    rw [List.getD_eq_getElem?_getD] at h
    have : B * ((k + 1 : Nat) : Int) = B * k + B := by push_cast; rw [Int.mul_add, Int.mul_one]
    rw [this]
    cases e : zs[k]? with
    | none => simp; omega
    | some z => rw [e] at h; simp only [Option.getD_some] at h; simp; omega
theorem rTot_any (v : Value) (zs : List Int) (w : World) (hv : RI w v zs) (h100 : zs.length ≤ 100) (hb : Bd 1000000 zs) :
    Calls Tryz.prog 8 #[v] w fun e w' => e = .returned (.int .i64 zs.sum) ∧ w = w' := by
  obtain ⟨A, c, rfl, hlc, hc, hcell⟩ := hv.open_
  have HC := Lib.hid hcell
  have HBd := Lib.hid hb
  clear hcell hv hb
  go_enter Tryz.func8, Tryz.ntmps8
  go_wp2
  go_loop [3, 4] (fun s i => ∃ k : Nat, k ≤ zs.length ∧ s = .int .i64 (zs.take k).sum ∧ i = .int .i64 (k : Int)) (fun _ i => zs.length - (intOf i).toNat)
  case atStart => exact ⟨0, Nat.zero_le _, rfl, rfl⟩
  case round =>
    obtain ⟨k, hk, rfl, rfl⟩ := hrel
    by_cases hlt : k < zs.length
    · obtain ⟨ad, z, rfl, _, hz, hcl⟩ := HC.out k hlt
      have h1 := sum_take_bd (by decide) HBd.out k
      have h2 := HBd.out k
      rw [List.getD_eq_getElem?_getD, hz.out] at h2
      simp only [Option.getD_some] at h2
      have HS : Hid ((zs.take (k + 1)).sum = (zs.take k).sum + z) := by show _ = _; rw [List.take_add_one, hz.out, List.sum_append]; simp
      clear HC hz
      generalize (zs.take k).sum = x at *
      go_wp2
      go_round
      case rel => exact ⟨k + 1, by omega, by rw [HS.out], by go_num⟩
      case measure => simp [intOf]; omega
    · have HS : Hid ((zs.take k).sum = zs.sum) := by show _ = _; rw [List.take_of_length_le (by omega)]
      go_wp2
      go_ret
      exact ⟨ret_i HS.out, rfl⟩
end Go.Proofs.YtjfggodnfoknfaaGreatDoor

namespace Go.Proofs.YtjfggodnfoknfaaGreatDoor
open Go.RowKit Go.Shelf

/-- What Calm asks of one vertex. -/
def okV (q : Nat) (d : List Int) (v : Nat) : Bool := decide (0 ≤ d.getD v 0) && (decide (v ≠ q) || decide (d.getD v 0 = 0))
def calmB (n q : Nat) (es : List Tri) (d : List Int) : Bool := (List.range n).all (okV q d) && tightB n q es d
/-- The greatest stable configuration. -/
def topL (n : Nat) (es : List Tri) (q : Nat) : List Int := (List.range n).map fun v => if v = q then 0 else valK es v n - 1
end Go.Proofs.YtjfggodnfoknfaaGreatDoor

namespace Go.Proofs.YtjfggodnfoknfaaGreatDoor
open Go.RowKit Go.Shelf

def expand (x : List Int) (T : Nat) : List (List Int) := (List.range T).map fun (t : Nat) => x ++ [(t : Int)]
theorem expand_len (x : List Int) (T : Nat) : (expand x T).length = T := by simp [expand]
def nextR (rows : List (List Int)) (T i : Nat) : List (List Int) := (rows.take i).flatMap fun x => expand x T
theorem nextR_succ {rows : List (List Int)} {i : Nat} {x : List Int} (h : rows[i]? = some x) (T : Nat) : nextR rows T (i + 1) = nextR rows T i ++ expand x T := by
  unfold nextR; rw [List.take_add_one, h, List.flatMap_append]; simp
theorem nextR_len {rows : List (List Int)} (T : Nat) {i : Nat} (h : i ≤ rows.length) : (nextR rows T i).length = i * T := by
  induction i with
  | zero => simp [nextR]
  | succ i ih =>
    rw [nextR_succ (List.getElem?_eq_getElem (by omega : i < rows.length)), List.length_append, ih (by omega), expand_len, Nat.succ_mul]
def cntT (tops : List Int) (v : Nat) : Nat := (tops.getD v 0 + 1).toNat
/-- All rows of k numbers that are at most the tops. -/
def boxK (tops : List Int) : Nat → List (List Int)
  | 0 => [[]]
  | k + 1 => nextR (boxK tops k) (cntT tops k) (boxK tops k).length
theorem boxK_len (tops : List Int) (k : Nat) : (boxK tops (k + 1)).length = (boxK tops k).length * cntT tops k := nextR_len _ (Nat.le_refl _)
theorem boxK_rows (tops : List Int) (k : Nat) : ∀ x ∈ boxK tops k, x.length = k := by
  induction k with
  | zero => intro x hx; simp only [boxK, List.mem_singleton] at hx; rw [hx]; rfl
  | succ k ih =>
    intro x hx
    simp only [boxK, nextR, List.take_length, List.mem_flatMap] at hx
    obtain ⟨y, hy, hx⟩ := hx
    unfold expand at hx
    obtain ⟨t, -, rfl⟩ := List.mem_map.1 hx
    rw [List.length_append, ih y hy]; rfl
theorem boxK_mem (tops : List Int) (k : Nat) {x : List Int} : x ∈ boxK tops k ↔ x.length = k ∧ ∀ v, v < k → 0 ≤ x.getD v 0 ∧ x.getD v 0 ≤ tops.getD v 0 := by
  induction k generalizing x with
  | zero =>
    simp only [boxK, List.mem_singleton]
    exact ⟨fun h => by subst h; exact ⟨rfl, fun v hv => by omega⟩, fun h => List.eq_nil_of_length_eq_zero h.1⟩
  | succ k ih =>
    simp only [boxK, nextR, List.take_length, List.mem_flatMap]
    constructor
    · rintro ⟨y, hy, hx⟩
      unfold expand at hx
      obtain ⟨t, ht, rfl⟩ := List.mem_map.1 hx
      have ht := List.mem_range.1 ht
      obtain ⟨h1, h2⟩ := ih.1 hy
      refine ⟨by rw [List.length_append, h1]; rfl, fun v hv => ?_⟩
      by_cases e : v = k
      · have hg : (y ++ [(t : Int)]).getD v 0 = (t : Int) := by
          rw [e, ← h1, List.getD_eq_getElem?_getD, List.getElem?_append_right (Nat.le_refl _)]; simp
        rw [hg, e]
        unfold cntT at ht
        omega
      · have hg : (y ++ [(t : Int)]).getD v 0 = y.getD v 0 := by
          rw [List.getD_eq_getElem?_getD, List.getElem?_append_left (by omega), List.getD_eq_getElem?_getD]
        rw [hg]; exact h2 v (by omega)
    · rintro ⟨h1, h2⟩
      have hk := h2 k (by omega)
      have hx : x = x.take k ++ [x.getD k 0] := by
        rw [List.getD_eq_getElem?_getD, List.getElem?_eq_getElem (by omega)]
        simp only [Option.getD_some]
        rw [List.take_append_getElem (by omega : k < x.length), List.take_of_length_le (by omega)]
      refine ⟨x.take k, ih.2 ⟨by rw [List.length_take]; omega, fun v hv => ?_⟩, ?_⟩
      · rw [List.getD_eq_getElem?_getD, List.getElem?_take_of_lt hv, ← List.getD_eq_getElem?_getD]; exact h2 v (by omega)
      · unfold expand
        refine List.mem_map.2 ⟨(x.getD k 0).toNat, List.mem_range.2 (show (x.getD k 0).toNat < cntT tops k by unfold cntT; omega), ?_⟩
        rw [Int.toNat_of_nonneg hk.1]; exact hx.symm
theorem topL_get {n : Nat} (es : List Tri) (q : Nat) {v : Nat} (hv : v < n) : (topL n es q).getD v 0 = if v = q then 0 else valK es v n - 1 := map_getD _ n 0 hv
def calmsL (n q : Nat) (es : List Tri) : List (List Int) := (boxK (topL n es q) n).filter (calmB n q es)
end Go.Proofs.YtjfggodnfoknfaaGreatDoor

namespace Go.Proofs.YtjfggodnfoknfaaGreatDoor
open Go.RowKit Go.Shelf

theorem sumN_at {n q : Nat} {f g : Nat → Int} (hq : q < n) (h : ∀ v, v < n → v ≠ q → f v = g v) : sumN n f = sumN n g + (f q - g q) := by
  have e := sumN_one (f := fun v => f v + - g v) hq fun i hi hne => by rw [h i hi hne]; omega
  rw [sumN_add, sumN_neg] at e
  omega
theorem getD_set {l : List Int} {q v : Nat} {z : Int} (hq : q < l.length) : (l.set q z).getD v 0 = if v = q then z else l.getD v 0 := by
  simp only [List.getD_eq_getElem?_getD]
  by_cases e : v = q
  · subst e; rw [List.getElem?_set_self hq, if_pos rfl]; rfl
  · rw [List.getElem?_set_ne (fun h => e h.symm), if_neg e]
theorem sum_set' {l : List Int} {q : Nat} {z : Int} (hq : q < l.length) : (l.set q z).sum = l.sum - l.getD q 0 + z := by
  rw [← sumN_list (l.set q z), ← sumN_list l, List.length_set,
    sumN_at (g := fun v => l.getD v 0) hq fun v _ hne => by rw [getD_set hq, if_neg hne]]
  show _ + ((l.set q z).getD q 0 - _) = _
  rw [getD_set hq, if_pos rfl]; omega
theorem list_eq {a b : List Int} {n : Nat} (ha : a.length = n) (hb : b.length = n) (h : ∀ v, v < n → a.getD v 0 = b.getD v 0) : a = b := by
  refine List.ext_getElem (by omega) fun v hv hv' => ?_
  have := h v (by omega)
  rw [List.getD_eq_getElem?_getD, List.getElem?_eq_getElem hv, List.getD_eq_getElem?_getD, List.getElem?_eq_getElem hv'] at this
  exact this
theorem outw_self {n v : Nat} (es : List Tri) : outw n (wgt es) (fun x => decide (x = v)) v = valK es v n := by
  unfold outw valK
  refine sumN_congr fun u _ => ?_
  by_cases e : u = v
  · simp [e]
  · simp [e, wgt_sym es v u]
/-- What is asked of a superstable configuration at 0. -/
theorem calms_iff {n : Nat} {es : List Tri} (hr : Rt n es) {x : List Int} : x ∈ calmsL n 0 es ↔ x.length = n ∧ x.getD 0 0 = 0 ∧ (∀ v, v < n → 0 ≤ x.getD v 0) ∧ Tight n (wgt es) 0 (fnD x) := by
  have hn := hr.n1
  unfold calmsL
  rw [List.mem_filter, boxK_mem]
  unfold calmB
  rw [Bool.and_eq_true, tightB_iff (by omega), List.all_eq_true]
  constructor
  · rintro ⟨⟨h1, h2⟩, h3, h4⟩
    have h0 := h3 0 (List.mem_range.2 (by omega))
    unfold okV at h0
    simp only [ne_eq, not_true_eq_false, decide_false, Bool.false_or, Bool.and_eq_true, decide_eq_true_eq] at h0
    exact ⟨h1, h0.2, fun v hv => (h2 v hv).1, h4⟩
  · rintro ⟨h1, h0, h2, h4⟩
    refine ⟨⟨h1, fun v hv => ⟨h2 v hv, ?_⟩⟩, fun v hv => ?_, h4⟩
    · rw [topL_get es 0 hv]
      by_cases e : v = 0
      · rw [if_pos e, e, h0]; exact Int.le_refl _
      · rw [if_neg e]
        obtain ⟨u, hu, hA, hlt⟩ := h4 (fun y => decide (y = v)) (by simp; exact fun h => e h.symm) ⟨v, hv, by simp⟩
        simp only [decide_eq_true_eq] at hA
        subst hA
        rw [outw_self] at hlt
        unfold fnD at hlt
        omega
    · have hv := List.mem_range.1 hv
      unfold okV
      simp only [Bool.and_eq_true, decide_eq_true_eq, Bool.or_eq_true]
      refine ⟨h2 v hv, ?_⟩
      by_cases e : v = 0
      · exact .inr (by rw [e]; exact h0)
      · exact .inl e
/-- The configuration of a reduced divisor. -/
def offL (r : List Int) : List Int := r.set 0 0
theorem tight_off {n : Nat} {w : Nat → Nat → Int} {d d' : Nat → Int} (h : ∀ v, v < n → v ≠ 0 → d v = d' v) (ht : Tight n w 0 d) : Tight n w 0 d' := fun A hA hs => by
  obtain ⟨v, hv, hvA, hlt⟩ := ht A hA hs
  refine ⟨v, hv, hvA, ?_⟩
  rw [← h v hv (fun e => by rw [e, hA] at hvA; cases hvA)]; exact hlt
theorem off_len (r : List Int) : (offL r).length = r.length := by simp [offL]
theorem off_get {r : List Int} (h : 0 < r.length) (v : Nat) : (offL r).getD v 0 = if v = 0 then 0 else r.getD v 0 := getD_set h
theorem off_calm {n : Nat} {es : List Tri} (hr : Rt n es) {d r s : List Int} (h : Red n 0 es d r s) : offL r ∈ calmsL n 0 es := by
  have hn := hr.n1
  have hl := h.rl
  refine (calms_iff hr).2 ⟨by rw [off_len, hl], by rw [off_get (by omega)]; rfl, fun v hv => ?_, tight_off (fun v hv hne => ?_) h.tight⟩
  · rw [off_get (by omega)]; split
    · exact Int.le_refl _
    · exact h.pos v hv (by assumption)
  · unfold fnD; rw [off_get (by omega), if_neg hne]
theorem red_sum {n : Nat} {es : List Tri} {d r s : List Int} (hd : d.length = n) (h : Red n 0 es d r s) : r.sum = d.sum := by
  rw [← sumd_len r h.rl, ← sumd_len d hd, sumN_congr h.eq, sumN_congr (g := fun v => d.getD v 0 + - lap n (wgt es) (fun u => s.getD u 0) v) fun v _ => by omega, sumN_add, sumN_neg, lap_sum (wgt_sym es)]; omega
/-- What Form makes of it. -/
theorem form_eq {n : Nat} {es : List Tri} (hn : 1 ≤ n) {d r s : List Int} (hd : d.length = n) (h : Red n 0 es d r s) : (offL r).set 0 (d.sum - (offL r).sum) = r := by
  have hl := h.rl
  have h0 : 0 < r.length := by omega
  have e : d.sum - (offL r).sum = r.getD 0 0 := by unfold offL; rw [sum_set' h0, red_sum hd h]; omega
  rw [e]
  refine list_eq (n := n) (by rw [List.length_set, off_len, hl]) hl fun v hv => ?_
  rw [getD_set (by rw [off_len]; exact h0), off_get h0]
  by_cases c : v = 0
  · rw [if_pos c, c]
  · rw [if_neg c, if_neg c]
theorem zeros_red {n : Nat} {es : List Tri} (hr : Rt n es) : Red n 0 es (zerosL n) (zerosL n) (zerosL n) := by
  have hn := hr.n1
  refine ⟨by simp [zerosL], by simp [zerosL], fun v _ => ?_, zerosL_get _ _, fun v _ _ => by rw [zerosL_get]; exact Int.le_refl _, fun A hA hs => ?_, fun v _ => by rw [zerosL_get]; omega, fun v _ => by rw [zerosL_get]; omega⟩
  · rw [zerosL_get, show lap n (wgt es) (fun u => (zerosL n).getD u 0) v = 0 from sumN_zero fun u _ => by show _ * ((zerosL n).getD v 0 - (zerosL n).getD u 0) = 0; rw [zerosL_get, zerosL_get]; simp]; rfl
  · obtain ⟨v, hv, hvA, hlt⟩ := some_out hr.nn hr.cn (by omega : 0 < n) hA hs
    exact ⟨v, hv, hvA, by unfold fnD; rw [zerosL_get]; exact hlt⟩
theorem calm_bd {n : Nat} {es : List Tri} (hr : Rt n es) {x : List Int} (hx : x ∈ calmsL n 0 es) : x.length = n ∧ Bd 9 x ∧ (∀ v, v < n → 0 ≤ x.getD v 0) := by
  obtain ⟨hxl, hx0, hxp, hxt⟩ := (calms_iff hr).1 hx
  refine ⟨hxl, fun v => ?_, hxp⟩
  by_cases hv : v < n
  · by_cases e : v = 0
    · rw [e, hx0]; omega
    · have := tight_lt hr hxt hv e
      have := hxp v hv
      omega
  · rw [List.getD_eq_getElem?_getD, List.getElem?_eq_none (by omega)]; simp
end Go.Proofs.YtjfggodnfoknfaaGreatDoor

namespace Go.Proofs.YtjfggodnfoknfaaGreatDoor
open Go.RowKit Go.Shelf

theorem enumK_ex {p : List Int → Bool} {f : List Int → List (List Int)} {v : Nat} {cs x : List Int} : ∀ fuel k, x ∈ enumK p f v cs fuel k → ∃ j : Nat, k ≤ j ∧ p (cs.set v (j : Int)) = true ∧ x ∈ f (cs.set v (j : Int)) := by
  intro fuel
  induction fuel with
  | zero => intro k h; simp [enumK] at h
  | succ fuel ih =>
    intro k h
    rw [enumK] at h
    by_cases hp : p (cs.set v (k : Int)) = true
    · rw [if_pos hp] at h
      rcases List.mem_append.1 h with h | h
      · exact ⟨k, Nat.le_refl _, hp, h⟩
      · obtain ⟨j, h1, h2⟩ := ih (k + 1) h
        exact ⟨j, by omega, h2⟩
    · rw [if_neg hp] at h; cases h
theorem enumK_mem {p : List Int → Bool} {f : List Int → List (List Int)} {v : Nat} {cs x : List Int} {j : Nat} (hx : x ∈ f (cs.set v (j : Int))) : ∀ fuel k, k ≤ j → j < k + fuel → (∀ i : Nat, i ≤ j → p (cs.set v (i : Int)) = true) → x ∈ enumK p f v cs fuel k := by
  intro fuel
  induction fuel with
  | zero => intro k h1 h2; omega
  | succ fuel ih =>
    intro k h1 h2 hp
    rw [enumK, if_pos (hp k h1)]
    by_cases e : k = j
    · subst e; exact List.mem_append_left _ hx
    · exact List.mem_append_right _ (ih (k + 1) (by omega) (by omega) hp)
theorem enumF_fix {p : List Int → Bool} {q : Nat} : ∀ (m v : Nat) (cs x : List Int), v + m ≤ cs.length → x ∈ enumF p q m v cs → x.length = cs.length ∧ ∀ u, u < v ∨ u = q → x.getD u 0 = cs.getD u 0 := by
  intro m
  induction m with
  | zero => intro v cs x _ h; simp only [enumF, List.mem_singleton] at h; subst h; exact ⟨rfl, fun _ _ => rfl⟩
  | succ m ih =>
    intro v cs x hl h
    rw [enumF] at h
    by_cases e : v = q
    · rw [if_pos e] at h
      obtain ⟨h1, h2⟩ := ih (v + 1) cs x (by omega) h
      exact ⟨h1, fun u hu => h2 u (by omega)⟩
    · rw [if_neg e] at h
      obtain ⟨j, -, -, hj⟩ := enumK_ex _ _ h
      obtain ⟨h1, h2⟩ := ih (v + 1) _ x (by simp; omega) hj
      refine ⟨by simpa using h1, fun u hu => ?_⟩
      rw [h2 u (by omega), getD_set (by omega), if_neg (by omega)]
theorem enumF_sound {p : List Int → Bool} {q : Nat} : ∀ (m v : Nat) (cs x : List Int), v + m = cs.length → p cs = true → (∀ u, u < v → 0 ≤ cs.getD u 0) → 0 ≤ cs.getD q 0 → x ∈ enumF p q m v cs → p x = true ∧ ∀ u, u < cs.length → 0 ≤ x.getD u 0 := by
  intro m
  induction m with
  | zero => intro v cs x hl hp h0 _ h; simp only [enumF, List.mem_singleton] at h; subst h; exact ⟨hp, fun u hu => h0 u (by omega)⟩
  | succ m ih =>
    intro v cs x hl hp h0 hq h
    rw [enumF] at h
    by_cases e : v = q
    · rw [if_pos e] at h
      exact ih (v + 1) cs x (by omega) hp (fun u hu => by
        by_cases c : u = v
        · rw [c, e]; exact hq
        · exact h0 u (by omega)) hq h
    · rw [if_neg e] at h
      obtain ⟨j, -, hpj, hj⟩ := enumK_ex _ _ h
      have := ih (v + 1) _ x (by simp; omega) hpj (fun u hu => by
        rw [getD_set (by omega)]; split
        · omega
        · exact h0 u (by omega)) (by rw [getD_set (by omega), if_neg (fun h => e h.symm)]; exact hq) hj
      simpa using this
theorem enumF_complete {p : List Int → Bool} {q n : Nat} {x : List Int} (hx : x.length = n) (hx0 : ∀ u, u < n → 0 ≤ x.getD u 0) (hx64 : ∀ u, u < n → x.getD u 0 < 64) (hdown : ∀ y : List Int, y.length = n → (∀ u, u < n → y.getD u 0 ≤ x.getD u 0) → p y = true) :
    ∀ (m v : Nat) (cs : List Int), v + m = n → cs.length = n → (∀ u, u < v ∨ u = q → x.getD u 0 = cs.getD u 0) → (∀ u, v ≤ u → u ≠ q → cs.getD u 0 = 0) → x ∈ enumF p q m v cs := by
  intro m
  induction m with
  | zero =>
    intro v cs hv hl h _
    simp only [enumF, List.mem_singleton]
    exact list_eq hx hl fun u hu => h u (.inl (by omega))
  | succ m ih =>
    intro v cs hv hl h hz
    rw [enumF]
    by_cases e : v = q
    · rw [if_pos e]
      exact ih (v + 1) cs (by omega) hl (fun u hu => h u (by omega)) fun u hu hne => hz u (by omega) hne
    · rw [if_neg e]
      have h0 := hx0 v (by omega)
      have h64 := hx64 v (by omega)
      refine enumK_mem (j := (x.getD v 0).toNat) ?_ 64 0 (by omega) (by omega) fun i hi => hdown _ (by simpa using hl) fun u hu => ?_
      · refine ih (v + 1) _ (by omega) (by simpa using hl) (fun u hu => ?_) fun u hu hne => ?_
        · rw [getD_set (by omega)]
          by_cases c : u = v
          · rw [if_pos c, c]; omega
          · rw [if_neg c]; exact h u (by omega)
        · rw [getD_set (by omega), if_neg (by omega)]; exact hz u (by omega) hne
      · rw [getD_set (by omega)]
        by_cases c : u = v
        · rw [if_pos c, c]; omega
        · rw [if_neg c]
          by_cases c2 : u < v ∨ u = q
          · rw [h u c2]; exact Int.le_refl _
          · rw [hz u (by omega) (by omega)]; exact hx0 u hu
theorem enumK_nodup {p : List Int → Bool} {f : List Int → List (List Int)} {v : Nat} {cs : List Int} (h1 : ∀ j : Nat, (f (cs.set v (j : Int))).Nodup) (h2 : ∀ (j : Nat) (x : List Int), x ∈ f (cs.set v (j : Int)) → x.getD v 0 = (j : Int)) : ∀ fuel k, (enumK p f v cs fuel k).Nodup := by
  intro fuel
  induction fuel with
  | zero => intro k; simp [enumK]
  | succ fuel ih =>
    intro k
    rw [enumK]
    split
    · refine List.nodup_append.2 ⟨h1 k, ih (k + 1), fun x hx y hy e => ?_⟩
      subst e
      obtain ⟨j, hj, -, hxj⟩ := enumK_ex _ _ hy
      have a := h2 k x hx
      have b := h2 j x hxj
      omega
    · simp
theorem enumF_nodup {p : List Int → Bool} {q : Nat} : ∀ (m v : Nat) (cs : List Int), v + m ≤ cs.length → (enumF p q m v cs).Nodup := by
  intro m
  induction m with
  | zero => intro v cs _; simp [enumF]
  | succ m ih =>
    intro v cs hl
    rw [enumF]
    split
    · exact ih (v + 1) cs (by omega)
    · refine enumK_nodup (fun j => ih (v + 1) _ (by simp; omega)) (fun j x hx => ?_) 64 0
      have := (enumF_fix m (v + 1) _ x (by simp; omega) hx).2 v (.inl (by omega))
      rw [this, getD_set (by omega), if_pos rfl]
theorem expand_nodup (x : List Int) (T : Nat) : (expand x T).Nodup := by
  unfold expand
  refine List.pairwise_map.2 (List.Pairwise.imp (fun {a b} h e => ?_) (List.nodup_range (n := T)))
  have := List.append_cancel_left e
  simp at this
  exact h (by omega)
theorem boxK_nodup (tops : List Int) (k : Nat) : (boxK tops k).Nodup := by
  induction k with
  | zero => simp [boxK]
  | succ k ih =>
    simp only [boxK, nextR, List.take_length]
    refine List.pairwise_flatMap.2 ⟨fun x _ => expand_nodup x _, List.Pairwise.imp (fun {a b} h x hx y hy e => ?_) ih⟩
    unfold expand at hx hy
    obtain ⟨s, -, rfl⟩ := List.mem_map.1 hx
    obtain ⟨t, -, e2⟩ := List.mem_map.1 hy
    rw [← e] at e2
    exact h (List.append_inj_left' e2 rfl).symm
theorem calms_nodup (n : Nat) (es : List Tri) : (calmsL n 0 es).Nodup := List.Pairwise.filter _ (boxK_nodup _ _)
theorem tight_down {n q : Nat} {w : Nat → Nat → Int} {x y : Nat → Int} (h : Tight n w q x) (hle : ∀ v, v < n → y v ≤ x v) : Tight n w q y := fun A hA hs => by
  obtain ⟨v, hv, hvA, hlt⟩ := h A hA hs
  exact ⟨v, hv, hvA, by have := hle v hv; omega⟩
theorem confs_iff {n : Nat} {es : List Tri} (hr : Rt n es) {x : List Int} : x ∈ confsL n 0 es ↔ x ∈ calmsL n 0 es := by
  have hn := hr.n1
  have hzl : (zerosL n).length = n := by simp [zerosL]
  rw [calms_iff hr]
  unfold confsL
  constructor
  · intro h
    obtain ⟨h1, h2⟩ := enumF_fix n 0 _ x (by omega) h
    obtain ⟨h3, h4⟩ := enumF_sound n 0 _ x (by omega) ((tightB_iff (by omega)).2 (zeros_red hr).tight) (fun u hu => by omega) (by rw [zerosL_get]; omega) h
    exact ⟨by omega, by rw [h2 0 (.inr rfl), zerosL_get], fun v hv => h4 v (by omega), (tightB_iff (by omega)).1 h3⟩
  · rintro ⟨h1, h2, h3, h4⟩
    refine enumF_complete h1 h3 (fun u hu => ?_) (fun y hy hle => (tightB_iff (by omega)).2 (tight_down h4 fun v hv => hle v hv)) n 0 _ (by omega) hzl (fun u hu => ?_) fun u _ _ => zerosL_get _ _
    · by_cases e : u = 0
      · rw [e, h2]; omega
      · have := tight_lt hr h4 hu e; omega
    · rw [zerosL_get]
      rcases hu with hu | hu
      · omega
      · rw [hu, h2]
theorem confs_perm {n : Nat} {es : List Tri} (hr : Rt n es) : (confsL n 0 es).Perm (calmsL n 0 es) := by
  have hzl : (zerosL n).length = n := by simp [zerosL]
  exact (List.perm_ext_iff_of_nodup (enumF_nodup n 0 _ (by omega)) (calms_nodup n es)).2 fun x => confs_iff hr
def prodN : Nat → (Nat → Nat) → Nat
  | 0, _ => 1
  | k + 1, f => prodN k f * f k
theorem box_prod (tops : List Int) (k : Nat) : (boxK tops k).length = prodN k (cntT tops) := by
  induction k with
  | zero => rfl
  | succ k ih => rw [boxK_len, ih, prodN]
theorem four_mul (a b : Nat) : 4 * (a * b) ≤ (a + b) * (a + b) := by
  rcases Nat.le_total a b with h | h
  · obtain ⟨c, rfl⟩ := Nat.le.dest h
    grind
  · obtain ⟨c, rfl⟩ := Nat.le.dest h
    grind
theorem prod4 (a b c d : Nat) : 256 * (a * b * (c * d)) ≤ (a + b + (c + d)) * (a + b + (c + d)) * ((a + b + (c + d)) * (a + b + (c + d))) := by
  have h1 := four_mul a b
  have h2 := four_mul c d
  have h3 := four_mul (a + b) (c + d)
  have h4 := Nat.mul_le_mul h1 h2
  have h5 := Nat.mul_le_mul h3 h3
  have e : 16 * (4 * (a * b) * (4 * (c * d))) = 256 * (a * b * (c * d)) := by grind
  have e2 : 16 * ((a + b) * (a + b) * ((c + d) * (c + d))) = 4 * ((a + b) * (c + d)) * (4 * ((a + b) * (c + d))) := by grind
  calc 256 * (a * b * (c * d)) = 16 * (4 * (a * b) * (4 * (c * d))) := e.symm
    _ ≤ 16 * ((a + b) * (a + b) * ((c + d) * (c + d))) := Nat.mul_le_mul_left _ h4
    _ = _ := e2
    _ ≤ _ := h5
theorem five_dec : ∀ s, s < 34 → ∀ e, e < 34 - s → e * (s * s * (s * s)) ≤ 256 * 16384 := by decide +kernel
theorem prod5 {a b c d e : Nat} (h : a + b + c + d + e ≤ 33) : a * b * c * d * e ≤ 16384 := by
  have h1 := prod4 a b c d
  have h2 := five_dec (a + b + (c + d)) (by omega) e (by omega)
  have h3 := Nat.mul_le_mul_left e h1
  have e1 : e * (256 * (a * b * (c * d))) = 256 * (a * b * c * d * e) := by grind
  omega
/-- A product of at most five numbers whose sum is at most 33. -/
theorem prod_four {a b c d : Nat} (h : a + b + c + d ≤ 33) : a * b * c * d ≤ 16384 := by
  have h1 := prod4 a b c d
  have h2 : a + b + (c + d) ≤ 33 := by omega
  have h3 := Nat.mul_le_mul (Nat.mul_le_mul h2 h2) (Nat.mul_le_mul h2 h2)
  have e1 : a * b * (c * d) = a * b * c * d := by grind
  rw [e1] at h1
  generalize a * b * c * d = p at *
  omega
theorem prod_three {a b c : Nat} (h : a + b + c ≤ 33) : a * b * c ≤ 16384 := by
  have h1 := prod4 a b c 1
  have h2 : a + b + (c + 1) ≤ 34 := by omega
  have h3 := Nat.mul_le_mul (Nat.mul_le_mul h2 h2) (Nat.mul_le_mul h2 h2)
  have e1 : a * b * (c * 1) = a * b * c := by grind
  rw [e1] at h1
  generalize a * b * c = p at *
  omega
theorem prod_two {a b : Nat} (h : a + b ≤ 33) : a * b ≤ 16384 := by
  have h1 := four_mul a b
  have h3 := Nat.mul_le_mul h h
  generalize a * b = p at *
  omega
theorem prod_le {k : Nat} (hk : k ≤ 5) (f : Nat → Nat) (hs : (sumN k fun v => (f v : Int)) ≤ 33) : prodN k f ≤ 16384 := by
  match k, hk, hs with
  | 0, _, _ => simp [prodN]
  | 1, _, hs => simp only [prodN, sumN, Nat.one_mul] at *; omega
  | 2, _, hs => simp only [prodN, sumN, Nat.one_mul] at *; exact prod_two (by omega)
  | 3, _, hs => simp only [prodN, sumN, Nat.one_mul] at *; exact prod_three (by omega)
  | 4, _, hs => simp only [prodN, sumN, Nat.one_mul] at *; exact prod_four (by omega)
  | 5, _, hs => simp only [prodN, sumN, Nat.one_mul] at *; exact prod5 (by omega)
theorem ind_sum (n : Nat) (M : Int) {a : Nat} (ha : a < n) : (sumN n fun v => if v = a then M else 0) = M := by
  rw [sumN_one ha fun i _ hne => if_neg hne, if_pos rfl]
theorem deg_le (n : Nat) : ∀ es : List Tri, (∀ t ∈ es, 0 ≤ t.1 ∧ t.1 < n ∧ 0 ≤ t.2.1 ∧ t.2.1 < n ∧ 0 ≤ t.2.2) → (sumN n fun v => sumN n fun u => wgt es u v) ≤ 2 * multS es := by
  intro es
  induction es with
  | nil => intro _; rw [sumN_zero (f := fun v => sumN n fun u => wgt [] u v) fun i _ => sumN_zero fun u _ => rfl]; simp [multS]
  | cons t r ih =>
    intro h
    have h1 := ih fun s hs => h s (List.mem_cons_of_mem _ hs)
    obtain ⟨a0, a1, b0, b1, m0⟩ := h t (by simp)
    have e : ∀ v, (sumN n fun u => wgt (t :: r) u v) = (sumN n fun u => ew t u v) + sumN n fun u => wgt r u v := fun v => sumN_add n _ _
    simp only [e, sumN_add, multS_cons]
    have hb : ∀ v, v < n → (sumN n fun u => ew t u v) ≤ (if v = t.1.toNat then t.2.2 else 0) + if v = t.2.1.toNat then t.2.2 else 0 := fun v _ => by
      have hu : ∀ u, u < n → ew t u v ≤ (if u = t.2.1.toNat then (if v = t.1.toNat then t.2.2 else 0) else 0) + if u = t.1.toNat then (if v = t.2.1.toNat then t.2.2 else 0) else 0 := fun u _ => by
        unfold ew
        split
        · rename_i hc
          obtain ⟨hne, hc | hc⟩ := hc
          · (repeat' split) <;> omega
          · (repeat' split) <;> omega
        · (repeat' split) <;> omega
      have := sumN_mono hu
      rw [sumN_add, ind_sum n _ (by omega), ind_sum n _ (by omega)] at this
      exact this
    have := sumN_mono hb
    rw [sumN_add, ind_sum n _ (by omega), ind_sum n _ (by omega)] at this
    omega
theorem val_sum {n : Nat} {es : List Tri} (hr : Rt n es) : (sumN n fun v => valK es v n) ≤ 18 := by
  have h := deg_le n es fun t ht => by
    have := hr.ed.lo t ht
    have := hr.ed.mult t ht
    omega
  have := hr.m9
  have e : (sumN n fun v => valK es v n) = sumN n fun v => sumN n fun u => wgt es u v := sumN_congr fun v _ => by
    unfold valK
    refine sumN_congr fun u _ => ?_
    split
    · rename_i c; rw [c, wgt_self]
    · rfl
  omega
theorem prodN_shift (m : Nat) (f : Nat → Nat) : prodN (m + 1) f = f 0 * prodN m fun v => f (v + 1) := by
  induction m with
  | zero => simp [prodN]
  | succ m ih => rw [prodN, ih, prodN]; grind
theorem sumN_shift (m : Nat) (f : Nat → Int) : sumN (m + 1) f = f 0 + sumN m fun v => f (v + 1) := by
  induction m with
  | zero => simp [sumN]
  | succ m ih => rw [sumN, ih, sumN]; omega
theorem calms_few {n : Nat} {es : List Tri} (hr : Rt n es) : (calmsL n 0 es).length ≤ 16384 := by
  have hn := hr.n1
  have hn6 := hr.n6
  refine Nat.le_trans (List.length_filter_le _ _) ?_
  rw [box_prod]
  obtain ⟨m, rfl⟩ : ∃ m, n = m + 1 := ⟨n - 1, by omega⟩
  rw [prodN_shift]
  have h0 : cntT (topL (m + 1) es 0) 0 = 1 := by unfold cntT; rw [topL_get es 0 (by omega), if_pos rfl]; rfl
  rw [h0, Nat.one_mul]
  refine prod_le (by omega) _ ?_
  have hv := val_sum hr
  rw [sumN_shift] at hv
  have h1 := (valK_le hr.ed 0 (m + 1)).1
  have h2 : (sumN m fun v => ((cntT (topL (m + 1) es 0) (v + 1) : Nat) : Int)) = sumN m fun v => valK es (v + 1) (m + 1) := sumN_congr fun v hv => by
    unfold cntT
    rw [topL_get es 0 (by omega), if_neg (by omega)]
    have := (valK_le hr.ed (v + 1) (m + 1)).1
    omega
  omega
theorem cf_ok {m : Nat} {es : List Tri} (hr : Rt m es) : CfOk m es := by
  have hp := confs_perm hr
  have hn6 := hr.n6
  refine ⟨by rw [hp.length_eq]; exact calms_few hr, fun e => ?_, fun c hc => ?_⟩
  · have := off_calm hr (zeros_red hr)
    rw [← confs_iff hr, e] at this
    cases this
  · obtain ⟨h1, h2, h3⟩ := calm_bd hr ((confs_iff hr).1 hc)
    refine ⟨by have := hr.n1; omega, by omega, fun z hz => ?_⟩
    obtain ⟨v, hv, e⟩ := List.mem_iff_getElem.1 hz
    have := h2 v
    rw [List.getD_eq_getElem?_getD, List.getElem?_eq_getElem hv, e] at this
    simp only [Option.getD_some] at this
    omega
end Go.Proofs.YtjfggodnfoknfaaGreatDoor

namespace Go.Proofs.YtjfggodnfoknfaaGreatDoor
open Go.RowKit Go.Shelf

theorem cmpI_neg (x y : Int) : cmpI y x = - cmpI x y := by unfold cmpI; (repeat' split) <;> omega
theorem cmpI_zero {x y : Int} (h : cmpI x y = 0) : x = y := by unfold cmpI at h; (repeat' split at h) <;> omega
theorem cmpL_neg (a b : List Int) : cmpL b a = - cmpL a b := by
  induction a generalizing b with
  | nil => cases b <;> rfl
  | cons x xs ih =>
    cases b with
    | nil => rfl
    | cons y ys =>
      rw [cmpL, cmpL, cmpI_neg x y, ih ys]
      by_cases h : cmpI x y = 0
      · rw [h]; simp
      · rw [if_pos (by omega), if_pos h]
theorem cmpL_zero {a b : List Int} (h : cmpL a b = 0) : a = b := by
  induction a generalizing b with
  | nil => cases b with
    | nil => rfl
    | cons y ys => rw [cmpL] at h; cases h
  | cons x xs ih =>
    cases b with
    | nil => rw [cmpL] at h; cases h
    | cons y ys =>
      rw [cmpL] at h
      by_cases e : cmpI x y = 0
      · rw [if_neg (by omega)] at h
        rw [cmpI_zero e, ih h]
      · rw [if_pos e] at h; exact absurd h e
theorem check_nrm {m : Nat} {es : List Tri} (hr : Rt m es) {deg : Int} {d : List Int} (hd : d ∈ nrmL m es deg) : checkE d m = 0 ↔ InB (d.getD 0 0) = true := by
  obtain ⟨c, hc, rfl⟩ := List.mem_map.1 hd
  obtain ⟨h1, h2, h3⟩ := calm_bd hr ((confs_iff hr).1 hc)
  have hn1 := hr.n1
  have hn6 := hr.n6
  cases c with
  | nil => simp at h1; omega
  | cons a t =>
    unfold checkE
    rw [if_neg (by omega), if_neg (by rw [nrm_len, h1]; simp)]
    have ht : t.all InB = true := List.all_eq_true.2 fun z hz => by
      obtain ⟨k, hk, rfl⟩ := List.mem_iff_getElem.1 hz
      have := h2 (k + 1)
      rw [List.getD_eq_getElem?_getD] at this
      simp only [List.getElem?_cons_succ, List.getElem?_eq_getElem hk, Option.getD_some] at this
      exact (inB_iff _).2 (by omega)
    have e : (nrm deg (a :: t)).all InB = InB ((nrm deg (a :: t)).getD 0 0) := by
      simp only [nrm, List.all_cons, ht, Bool.and_true, List.getD_cons_zero]
    rw [e]
    cases InB ((nrm deg (a :: t)).getD 0 0) <;> simp
end Go.Proofs.YtjfggodnfoknfaaGreatDoor

namespace Go.Proofs.YtjfggodnfoknfaaGreatDoor
open Go.RowKit Go.Shelf

theorem lap_shift {n : Nat} {w : Nat → Nat → Int} {s t : Nat → Int} {c : Int} (h : ∀ v, v < n → s v = t v + c) {v : Nat} (hv : v < n) : lap n w s v = lap n w t v := by
  unfold lap
  refine sumN_congr fun u hu => ?_
  rw [h v hv, h u hu, show t v + c - (t u + c) = t v - t u by omega]
end Go.Proofs.YtjfggodnfoknfaaGreatDoor

