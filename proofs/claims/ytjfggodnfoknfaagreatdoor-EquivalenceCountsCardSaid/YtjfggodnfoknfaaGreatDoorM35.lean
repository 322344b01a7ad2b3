/- The law Counts in plain words: the classes of a degree are as many as the trees, and one of them is the normal form.
   The law EquivalenceCounts: what the function answers. -/
import Derived.Test.YtjfggodnfoknfaaGreatDoorM34
set_option maxRecDepth 100000
set_option maxHeartbeats 16000000
namespace Go.Proofs.YtjfggodnfoknfaaGreatDoor
open Go.RowKit Go.Shelf

theorem dec_big {u : Nat} (h : ¬ u < 10) : Go.Lib.decDigits u = Go.Lib.decDigits (u / 10) ++ [UInt8.ofNat (48 + u % 10)] := by rw [Go.Lib.decDigits, dif_neg h]
theorem dec_low {u : Nat} (h : u < 10) : Go.Lib.decDigits u = [UInt8.ofNat (48 + u)] := by rw [Go.Lib.decDigits, dif_pos h]
theorem can_one {l : List Int} (h : Dig l) (hc : Can l) (hl : l ≠ []) : 1 ≤ dval l := by
  have := can_ge h hc hl
  have := p10_pos (l.length - 1)
  omega
theorem can_tail {d : Int} {r : List Int} (hc : Can (d :: r)) (hr : r ≠ []) : Can r := by
  rcases hc with h | h
  · cases h
  · refine .inr ?_
    cases r with
    | nil => exact absurd rfl hr
    | cons e r => simpa using h
theorem chrs_dec : ∀ l : List Int, Dig l → Can l → l ≠ [] → chrs l = Go.Lib.decDigits (dval l).toNat := by
  intro l
  induction l with
  | nil => intro _ _ h; exact absurd rfl h
  | cons d r ih =>
    intro hd hc _
    obtain ⟨⟨h0, h9⟩, hr⟩ := hd.tail
    by_cases e : r = []
    · subst e
      rw [show dval [d] = d by simp [dval], dec_low (by omega)]
      show [UInt8.ofNat (48 + d).toNat] = _
      rw [show (48 + d).toNat = 48 + d.toNat by omega]
    · have hcr := can_tail hc e
      have h1 := can_one hr hcr e
      have hv : dval (d :: r) = d + 10 * dval r := rfl
      rw [dec_big (by omega), show (dval (d :: r)).toNat / 10 = (dval r).toNat by omega, show (dval (d :: r)).toNat % 10 = d.toNat by omega, ← ih hr hcr e]
      unfold chrs
      rw [List.reverse_cons, List.map_append, show (48 + d.toNat) = (48 + d).toNat by omega]
      rfl
/-- The canonical text is one alone. -/
theorem zs_zv {v : Value} {z : Int} (h : ZS v z) (h0 : 0 ≤ z) : v = zV z := by
  obtain ⟨l, m, rfl, hd, hc, hm, rfl⟩ := h
  by_cases e : l = []
  · subst e
    rw [hm rfl]
    unfold zV textL
    rw [if_pos rfl, itoa_parts, show sgZ [] false = 0 from rfl, if_neg (by omega), show (0 : Int).natAbs = 0 from rfl, dec_zero]
  · have h1 := can_one hd hc e
    unfold sgZ at h0
    cases m with
    | true => rw [if_pos rfl] at h0; omega
    | false =>
      unfold zV textL
      rw [if_neg e, if_neg (by simp), itoa_parts, show sgZ l false = dval l from rfl, if_neg (by omega), chrs_dec l hd hc e, show (dval l).natAbs = (dval l).toNat by omega]
/-- What a script from one to the other verifies. -/
theorem verify_way {m : Nat} {es : List Tri} {a c s : List Int} (hr : Rt m es) (h0 : eGiven m es [a, c] = 0) (hl : s.length = m) (hb : ∀ z ∈ s, InB z = true) (h : Way m es a c fun k => s.getD k 0) : verifyE m es a c s = 0 := by
  have hn6 := hr.n6
  obtain ⟨-, h4, h5⟩ := eGiven_ok h0
  have ca := h5 a (by simp)
  have cc := h5 c (by simp)
  obtain ⟨_, _, hal, hai⟩ := checkE_ok ca
  obtain ⟨_, _, hcl, hci⟩ := checkE_ok cc
  have hal' : a.length = m := by omega
  rw [verifyE_ref hr.ed hr.n1 (by omega) hr.gc h0 (by rw [scrE_check hr.n1 (by omega)]; exact checkE_of hr.n1 (by omega) hl hb), if_pos]
  refine list_eq (appL_len es s hal') (by omega) fun v hv => ?_
  have := h v hv
  rw [appL_get es s hal' hv]
  omega
theorem nrm_get {deg : Int} {c : List Int} {v : Nat} (h : v ≠ 0) : (nrm deg c).getD v 0 = c.getD v 0 := by
  cases c with
  | nil => rfl
  | cons a t =>
    cases v with
    | zero => exact absurd rfl h
    | succ k => simp [nrm]
theorem nrm_sum {deg : Int} {c : List Int} (h : c ≠ []) : (nrm deg c).sum = deg := by
  cases c with
  | nil => exact absurd rfl h
  | cons a t => simp only [nrm, List.sum_cons]; omega
theorem nrm_off {deg : Int} {c : List Int} : nrm deg c = c.set 0 (deg - (c.set 0 0).sum) := by
  cases c with
  | nil => rfl
  | cons a t => simp [nrm]
theorem nrm_inj {deg : Int} {a b : List Int} (hl : a.length = b.length) (ha : a.getD 0 0 = 0) (hb : b.getD 0 0 = 0) (h : nrm deg a = nrm deg b) : a = b := by
  refine list_eq (n := a.length) rfl (by omega) fun v hv => ?_
  by_cases e : v = 0
  · rw [e, ha, hb]
  · rw [← nrm_get (deg := deg) e, h, nrm_get e]
theorem deg_bd {d : List Int} {M : Int} {k : Nat} (hd : d.length ≤ k) (hM : 0 ≤ M) (h : Bd M d) : -(M * k) ≤ d.sum ∧ d.sum ≤ M * k := by
  have h1 := sum_bd (t := d) (M := M) (fun z hz => by
    obtain ⟨j, hj, rfl⟩ := List.mem_iff_getElem.1 hz
    have := h j
    rw [List.getD_eq_getElem?_getD, List.getElem?_eq_getElem hj] at this
    exact this) d.length
  rw [List.take_length] at h1
  have h2 := Int.mul_le_mul_of_nonneg_left (show (d.length : Int) ≤ k by omega) hM
  omega
/-- What is asked of the classes' list. -/
structure CntOk (m : Nat) (es : List Tri) (d r : List Int) (u : List (List Int)) : Prop where
  len : (u.length : Int) = treeN m es
  few : u.length ≤ 16384
  xl : ∀ x ∈ u, x.length = m + 1
  xs : ∀ x ∈ u, x.sum = d.sum
  xb : ∀ x ∈ u, Bd 1000000 x
  xq : ∀ x ∈ u, BdQ (m + 1) 0 (x.getD 0 0) x ∧ (-1000 ≤ x.getD 0 0 ∧ x.getD 0 0 ≤ 1000)
  srt : ∀ (i : Nat) (a b : List Int), u[i]? = some a → u[i + 1]? = some b → cmpL a b < 0
  eqv : ∀ x ∈ u, ∀ bb s er, EqvP (m + 1 : Nat) es d x bb s er → er = 0 ∧ bb = decide (x = r) ∧ (bb = true → verifyE (m + 1 : Nat) es d x s = 0)
  one : u.count r = 1
/-- What is asked of the graph and the divisor. -/
structure CntG (n : Int) (m : Nat) (es : List Tri) (d : List Int) : Prop where
  nm : n = ((m + 1 : Nat) : Int)
  rt : Rt (m + 1) es
  m4 : m ≤ 4
  m8 : multS es ≤ 8
  g0 : eGiven n es [] = 0
  dc : checkE d n = 0
  dl : d.length = m + 1
  db : Bd 100 d
  sm : Sm n es
  lw : Lw n d
theorem cntG_of {n : Int} {es : List Tri} {d : List Int} (h : rightP n es [d] = true) (hf : fewT n es = true) : ∃ m : Nat, CntG n m es d := by
  obtain ⟨hs, h0, hL⟩ := rightP_iff h
  obtain ⟨hc, hl⟩ := hL d (by simp)
  obtain ⟨g1, g2, -⟩ := eGiven_ok h0
  obtain ⟨k, rfl, hr⟩ := rt_of hs g1 g2
  obtain ⟨h5, h8⟩ := fewT_sm hf g1
  have h1 := hr.n1
  obtain ⟨m, rfl⟩ : ∃ m, k = m + 1 := ⟨k - 1, by omega⟩
  obtain ⟨_, _, hdl, _⟩ := checkE_ok hc
  exact ⟨m, rfl, hr, by omega, h8, h0, hc, by omega, hl hc, hs, hl⟩
theorem cls_deg {n : Int} {m : Nat} {es : List Tri} {d : List Int} (h : CntG n m es d) : -500 ≤ d.sum ∧ d.sum ≤ 500 := by
  have := deg_bd (k := 5) (by have := h.dl; have := h.m4; omega) (by decide) h.db
  omega
/-- A normal form of the list. -/
theorem nrm_ok {n : Int} {m : Nat} {es : List Tri} {d c : List Int} (h : CntG n m es d) (hc : c ∈ calmsL (m + 1) 0 es) : (nrm d.sum c).length = m + 1 ∧ (nrm d.sum c).sum = d.sum ∧ (-600 ≤ (nrm d.sum c).getD 0 0 ∧ (nrm d.sum c).getD 0 0 ≤ 600) ∧ Bd 600 (nrm d.sum c) ∧ BdQ (m + 1) 0 ((nrm d.sum c).getD 0 0) (nrm d.sum c) ∧ Red (m + 1) 0 es (nrm d.sum c) (nrm d.sum c) (zerosL (m + 1)) ∧ (∀ v, v < m + 1 → v ≠ 0 → 0 ≤ (nrm d.sum c).getD v 0 ∧ (nrm d.sum c).getD v 0 ≤ 9) := by
  obtain ⟨h1, h2, h3⟩ := calm_bd h.rt hc
  obtain ⟨-, h00, -, ht⟩ := (calms_iff h.rt).1 hc
  have hd := cls_deg h
  have hg : -600 ≤ (nrm d.sum c).getD 0 0 ∧ (nrm d.sum c).getD 0 0 ≤ 600 := by
    cases c with
    | nil => simp at h1
    | cons a t =>
      have hb : Bd 9 t := fun j => by have := h2 (j + 1); simpa using this
      have := deg_bd (d := t) (k := 5) (by simp at h1; have := h.m4; omega) (by decide) hb
      show -600 ≤ d.sum - t.sum ∧ d.sum - t.sum ≤ 600
      omega
  have hb : Bd 600 (nrm d.sum c) := fun j => by
    by_cases e : j = 0
    · rw [e]; exact hg
    · rw [nrm_get e]; have := h2 j; omega
  have hl : (nrm d.sum c).length = m + 1 := by rw [nrm_len]; exact h1
  refine ⟨hl, nrm_sum (by rintro rfl; simp at h1), hg, hb, fun v hv => ?_, ⟨hl, by simp [zerosL], fun v hv => ?_, zerosL_get _ _, fun v hv hne => ?_, ?_, fun v hv => ?_, fun v hv => ?_⟩, fun v hv hne => ?_⟩
  · by_cases e : v = 0
    · rw [if_pos e, e]; omega
    · rw [if_neg e, nrm_get e]; have := h2 v; omega
  · rw [show lap (m + 1) (wgt es) (fun u => (zerosL (m + 1)).getD u 0) v = 0 from sumN_zero fun u _ => by show _ * ((zerosL (m + 1)).getD v 0 - (zerosL (m + 1)).getD u 0) = 0; rw [zerosL_get, zerosL_get]; simp]; omega
  · rw [nrm_get hne]; exact h3 v hv
  · exact tight_off (fun v hv hne => by show c.getD v 0 = (nrm d.sum c).getD v 0; rw [nrm_get hne]) ht
  · have := hb v; omega
  · rw [zerosL_get]; omega
  · rw [nrm_get hne]; have := h2 v; have := h3 v hv; omega
theorem cls_ok {n : Int} {m : Nat} {es : List Tri} {d : List Int} {u : List (List Int)} {er : Int} (h : CntG n m es d) (hc : ClsP n es d.sum u er) : er = 0 ∧ u.Perm (nrmL (m + 1) es d.sum) ∧ ∀ (i j : Nat) (a b : List Int), i < j → u[i]? = some a → u[j]? = some b → ¬ cmpL b a < 0 := by
  have hd := cls_deg h
  rcases hc with ⟨h0, _⟩ | ⟨_, h1, _⟩ | ⟨_, _, m', hm, hr, hc⟩
  · exact absurd h.g0 h0
  · exact absurd (show -1048576 ≤ d.sum ∧ d.sum ≤ 1048576 by omega) h1
  · obtain rfl : m' = m + 1 := by have := h.nm; omega
    rcases hc with ⟨⟨x, hx, hne⟩, _⟩ | ⟨_, h1, h2, h3⟩
    · exfalso
      rw [hm] at hne
      refine hne ((check_nrm hr hx).2 ?_)
      obtain ⟨c, hcm, rfl⟩ := List.mem_map.1 hx
      obtain ⟨-, -, h3, -⟩ := nrm_ok h ((confs_iff hr).1 hcm)
      rw [inB_iff]; omega
    · exact ⟨h1, h2, h3⟩
theorem nrm_nodup {n : Int} {m : Nat} {es : List Tri} {d : List Int} (h : CntG n m es d) : (nrmL (m + 1) es d.sum).Nodup := by
  have hn : (confsL (m + 1) 0 es).Nodup := (confs_perm h.rt).nodup_iff.2 (calms_nodup _ _)
  unfold nrmL List.Nodup
  rw [List.pairwise_map]
  refine List.Pairwise.imp_of_mem (fun {a b} ha hb hne e => hne ?_) hn
  obtain ⟨a1, a2, -⟩ := (calms_iff h.rt).1 ((confs_iff h.rt).1 ha)
  obtain ⟨b1, b2, -⟩ := (calms_iff h.rt).1 ((confs_iff h.rt).1 hb)
  exact nrm_inj (by omega) a2 b2 e
theorem small_len {m : Nat} {es : List Tri} (hr : Rt (m + 1) es) : ((calmsL (m + 1) 0 es).length : Int) = treeN m es := by
  have h1 := tight_count (m := m) (w := wgt es) hr.nn (wgt_sym es) hr.cn (calms_nodup (m + 1) es) fun x => by
    rw [calms_iff hr]; rfl
  have h2 := det_pos (m := m) hr.nn (wgt_sym es) hr.cn m (Nat.le_refl _)
  rw [h1]
  unfold treeN
  omega
/-- THE CLASSES ARE AS MANY AS THE TREES, AND ONE OF THEM IS THE NORMAL FORM. -/
theorem counts_ok {n : Int} {m : Nat} {es : List Tri} {d r : List Int} {u : List (List Int)} {er er' : Int} (h : CntG n m es d) (hc : ClsP n es d.sum u er) (hn : NrmP n es d r er') : er = 0 ∧ er' = 0 ∧ CntOk m es d r u := by
  obtain ⟨he, hp, hs⟩ := cls_ok h hc
  have hr := h.rt
  have hdl := h.dl
  have hm4 := h.m4
  have g1 : eGiven n es [d] = 0 := eGiven_of h.g0 fun z hz => by rw [List.mem_singleton.1 hz]; exact h.dc
  rcases hn with ⟨hx, _⟩ | ⟨_, he', m', s, hmm, _, hred⟩
  · exact absurd g1 hx
  obtain rfl : m' = m + 1 := by have := h.nm; omega
  have hnd : u.Nodup := hp.nodup_iff.2 (nrm_nodup h)
  have hmem : ∀ x, x ∈ u ↔ ∃ c ∈ calmsL (m + 1) 0 es, x = nrm d.sum c := fun x => by
    rw [hp.mem_iff]
    unfold nrmL
    rw [List.mem_map]
    constructor
    · rintro ⟨c, hc, rfl⟩; exact ⟨c, (confs_iff hr).1 hc, rfl⟩
    · rintro ⟨c, hc, rfl⟩; exact ⟨c, (confs_iff hr).2 hc, rfl⟩
  have hrm : r ∈ u := (hmem r).2 ⟨offL r, off_calm hr hred, by
    have hh : (offL r).set 0 0 = offL r := by unfold offL; rw [List.set_set]
    rw [nrm_off, hh]
    exact (form_eq hr.n1 hdl hred).symm⟩
  have hlen : u.length = (calmsL (m + 1) 0 es).length := by
    rw [hp.length_eq, ← (confs_perm hr).length_eq]; unfold nrmL; rw [List.length_map]
  refine ⟨he, he', ⟨by rw [hlen]; exact small_len hr, by rw [hlen]; exact calms_few hr, fun x hx => ?_, fun x hx => ?_, fun x hx => ?_, fun x hx => ?_, fun i a b ha hb => ?_, fun x hx bb s' er hq => ?_, ?_⟩⟩
  · obtain ⟨c, hc, rfl⟩ := (hmem x).1 hx; exact (nrm_ok h hc).1
  · obtain ⟨c, hc, rfl⟩ := (hmem x).1 hx; exact (nrm_ok h hc).2.1
  · obtain ⟨c, hc, rfl⟩ := (hmem x).1 hx; intro j; have := (nrm_ok h hc).2.2.2.1 j; omega
  · obtain ⟨c, hc, rfl⟩ := (hmem x).1 hx
    obtain ⟨_, _, h3, _, h5, _⟩ := nrm_ok h hc
    exact ⟨h5, by omega⟩
  · have h1 := hs i (i + 1) a b (by omega) ha hb
    have h2 : a ≠ b := by
      obtain ⟨hi, rfl⟩ := List.getElem?_eq_some_iff.1 ha
      obtain ⟨hj, rfl⟩ := List.getElem?_eq_some_iff.1 hb
      exact (List.pairwise_iff_getElem.1 hnd) i (i + 1) hi hj (by omega)
    have h3 : cmpL a b ≠ 0 := fun e => h2 (cmpL_zero e)
    rw [cmpL_neg a b] at h1
    omega
  · obtain ⟨c, hc, rfl⟩ := (hmem x).1 hx
    obtain ⟨x1, x2, x3, x4, x5, x6, x7⟩ := nrm_ok h hc
    obtain ⟨x, hxe⟩ : ∃ x, x = nrm d.sum c := ⟨_, rfl⟩
    rw [← hxe] at x1 x2 x3 x4 x5 x6 x7 hq ⊢
    have cx : checkE x ((m + 1 : Nat) : Int) = 0 := checkE_of (by omega) (by omega) x1 (bd_inB x4 (by decide))
    have g2 : eGiven ((m + 1 : Nat) : Int) es [d, x] = 0 := eGiven_of (by rw [← h.nm]; exact h.g0) fun z hz => by
      simp only [List.mem_cons, List.not_mem_nil, or_false] at hz
      rcases hz with rfl | rfl
      · rw [← h.nm]; exact h.dc
      · exact cx
    obtain ⟨k1, k, hk, hrk, hq⟩ := hq.ok g2
    obtain rfl : k = m + 1 := by omega
    refine ⟨k1, ?_, ?_⟩
    · by_cases e : x = r
      · rw [decide_eq_true e]
        rcases hq with ⟨hb, _⟩ | ⟨_, hno, _⟩
        · exact hb
        · exact absurd ⟨fun v => s.getD v 0, fun v hv => by have := hred.eq v hv; rw [e]; omega⟩ hno
      · rw [decide_eq_false e]
        rcases hq with ⟨_, ⟨t, ht⟩, _⟩ | ⟨hb, _⟩
        · exact absurd (red_way hr hred x6 ht).1.symm e
        · exact hb
    · intro hbt
      rcases hq with ⟨_, ⟨t, ht⟩, hall⟩ | ⟨hb, _⟩
      · obtain ⟨l1, ⟨c', l2⟩, l3, y, hy, l4⟩ := hall t ht
        have hsh : ∀ v, v < m + 1 → s'.getD v 0 = t v + -c' := fun v hv => by rw [l2 v hv]; omega
        have hw : Way (m + 1) es d x fun k => s'.getD k 0 := fun v hv => by
          rw [lap_shift hsh hv]; exact ht v hv
        obtain ⟨T, hT⟩ : ∃ T : Nat → Int, T = fun v => s'.getD v 0 + -(s'.getD 0 0) := ⟨_, rfl⟩
        have hTl : ∀ v, v < m + 1 → lap (m + 1) (wgt es) T v = d.getD v 0 - x.getD v 0 := fun v hv => by
          rw [lap_shift (t := fun v => s'.getD v 0) (c := -(s'.getD 0 0)) (fun v _ => by rw [hT]) hv]
          exact (hw v hv).symm
        have hu1 := script_le (s := T) hr.nn (wgt_sym es) hr.cn (q := 0) (by omega) (by rw [hT]; dsimp only; omega) (B := 200) (by decide) fun v hv hne => by
          rw [hTl v hv]; have := x7 v hv hne; have := h.db v; omega
        have hu2 := script_le (s := fun v => - T v) hr.nn (wgt_sym es) hr.cn (q := 0) (by omega) (by rw [hT]; dsimp only; omega) (B := 200) (by decide) fun v hv hne => by
          rw [lap_neg, hTl v hv]; have := x7 v hv hne; have := h.db v; omega
        have hB : (((m + 1 : Nat) : Int)) * (((m + 1 : Nat) : Int) * 200) ≤ 5000 := by
          have a1 : ((m + 1 : Nat) : Int) ≤ 5 := by omega
          have a2 : (((m + 1 : Nat) : Int)) * 200 ≤ 1000 := by omega
          have := Int.mul_le_mul a1 a2 (by omega) (by omega)
          omega
        have hsb : ∀ v, v < m + 1 → 0 ≤ s'.getD v 0 ∧ s'.getD v 0 ≤ 10000 := fun v hv => by
          have b1 := hu1 v hv
          have b2 := hu2 y hy
          have b3 := l3 v hv
          rw [hT] at b1 b2
          dsimp only at b1 b2
          rw [l4] at b2
          omega
        refine verify_way hr g2 l1 (fun z hz => ?_) hw
        obtain ⟨j, hj, rfl⟩ := List.mem_iff_getElem.1 hz
        have := hsb j (by omega)
        rw [List.getD_eq_getElem?_getD, List.getElem?_eq_getElem hj] at this
        simp only [Option.getD_some] at this
        rw [inB_iff]; omega
      · rw [hb] at hbt; cases hbt
  · have a1 := List.nodup_iff_count.1 hnd r
    have a2 := List.count_pos_iff.2 hrm
    omega
end Go.Proofs.YtjfggodnfoknfaaGreatDoor

namespace Go.Proofs.YtjfggodnfoknfaaGreatDoor
open Go.RowKit Go.Shelf

/-- What the law's walk keeps: the graph, the divisor, the box of the graph. -/
structure FG (w : World) (gv : Value) (gu : List Value) (n : Int) (es : List Tri) (vd : Value) (d : List Int) (W : World) : Prop where
  g : GV W gv n es
  d : RI W vd d
  x : BL W w.heap.size 24 gu
  t : TB W
  b : Below w.heap.size w W
theorem FG.next {w : World} {gv : Value} {gu : List Value} {n : Int} {es : List Tri} {vd : Value} {d : List Int} {W W' : World} (h : FG w gv gu n es vd d W) (hb : Below W.heap.size W W') : FG w gv gu n es vd d W' :=
  ⟨h.g.below hb, RI.below h.d hb, h.x.bel hb, h.t.below hb, h.b.trans (hb.mono h.b.size)⟩
/-- What the loop keeps besides: the list and the normal form. -/
structure LG (w : World) (gv : Value) (gu : List Value) (n : Int) (es : List Tri) (vd : Value) (d : List Int) (vl : Value) (u : List (List Int)) (vr : Value) (r : List Int) (W : World) : Prop where
  f : FG w gv gu n es vd d W
  l : RR W vl u
  r : RI W vr r
theorem LG.next {w : World} {gv : Value} {gu : List Value} {n : Int} {es : List Tri} {vd : Value} {d : List Int} {vl : Value} {u : List (List Int)} {vr : Value} {r : List Int} {W W' : World} (h : LG w gv gu n es vd d vl u vr r W) (hb : Below W.heap.size W W') : LG w gv gu n es vd d vl u vr r W' :=
  ⟨h.f.next hb, h.l.below hb, RI.below h.r hb⟩
theorem RR.at_ {w : World} {ad : Addr} {l c : Nat} {zss : List (List Int)} (h : RR w (.slice (some ad) l c) zss) {k : Nat} (hk : k < zss.length) :
    ∃ zs A1 c1, ad.block < w.heap.size ∧ zss[k]? = some zs ∧ w.cell? (ad.add k) = some (.slice A1 zs.length c1) ∧ RI w (.slice A1 zs.length c1) zs := by
  obtain ⟨A', c', e, -, -, hc⟩ := h.open_
  obtain ⟨ad', zs, A1, c1, hA, hb, hz, hcl, hri⟩ := hc k hk
  rw [hA] at e
  simp only [Value.slice.injEq, Option.some.injEq] at e
  obtain ⟨rfl, -, -⟩ := e
  exact ⟨zs, A1, c1, hb, hz.out, hcl, hri⟩
theorem count_next {u : List (List Int)} {r x : List Int} {i : Nat} (h : u[i]? = some x) : (u.take (i + 1)).count r = (u.take i).count r + if x = r then 1 else 0 := by
  rw [List.take_add_one, h, List.count_append, Option.toList_some, List.count_singleton]
  simp only [beq_iff_eq]
theorem counts_any (g vd : Value) (n : Int) (es : List Tri) (d : List Int) (w : World) (hg : GV w g n es) (hd : RI w vd d) (ht : TB w) :
    Calls Tryz.prog 3 #[g, vd] w fun e w' => e = .returned (.bool true) ∧ Below w.heap.size w w' := by
  obtain ⟨A, c, rfl, -⟩ := hg.open_
  obtain ⟨A2, c2, rfl, -⟩ := RI.open_ hd
  obtain ⟨W0, hW0⟩ : ∃ W0, W0 = w.alloc (.cells #[.int .i64 n, .slice A es.length c] 24) := ⟨_, rfl⟩
  have hb0 : Below w.heap.size w W0 := by rw [hW0]; exact below_alloc w _
  have hz0 : W0.heap.size = w.heap.size + 1 := by rw [hW0]; simp
  have hf0 : FG w (.agg #[.int .i64 n, .slice A es.length c]) [.int .i64 n, .slice A es.length c] n es (.slice A2 d.length c2) d W0 :=
    ⟨hg.below hb0, RI.below hd hb0, by rw [hW0]; exact BL.new' w _ _, ht.below hb0, hb0⟩
  obtain ⟨W1, hW1⟩ : ∃ W1, W1 = W0.alloc (.cells #[.slice A2 d.length c2] 26) := ⟨_, rfl⟩
  have hb1 : Below W0.heap.size W0 W1 := by rw [hW1]; exact below_alloc W0 _
  have hr1 : RR W1 (.slice (some ⟨w.heap.size + 1, 0, none⟩) 1 1) [d] := by rw [hW1, ← hz0]; exact RR.lit1 26 hf0.d
  have hf1 := hf0.next hb1
  have hri := right_any _ _ n es [d] W1 hf1.g hr1
  have c0 := hf0.x.cell 0
  have c1 := hf0.x.cell 1
  have HF1 := Lib.hid hf1
  have HW0 := Lib.hid hW0
  have HW1 := Lib.hid hW1
  rw [hW0] at c0 c1
  clear hg hd ht hb0 hf0 hb1 hr1 hf1 hW0 hW1 hz0
  have AW : Hid (∀ W, Calls Tryz.prog 6 #[] W fun e w' => e = .returned (.bool true) ∧ Below W.heap.size W w') := awake_any
  go_enter Tryz.func3, Tryz.ntmps3
  go_wp2_with fail
  rw [← HW0.out, ← HW1.out]
  by_cases hR : rightP n es [d] = false
  · rw [hR] at hri
    refine hri.mono ?_
    rintro e w2 ⟨rfl, hb2⟩
    have HF2 := Lib.hid (HF1.out.next hb2)
    clear hb2 hri hR c0 c1
    go_wp2_with fail
    refine (AW.out _).mono ?_
    rintro e w3 ⟨rfl, hb3⟩
    have HF3 := Lib.hid (HF2.out.next hb3)
    clear hb3
    go_wp2
    go_ret
    exact ⟨rfl, HF3.out.b⟩
  have hR : rightP n es [d] = true := by simpa using hR
  rw [hR] at hri
  refine hri.mono ?_
  rintro e w2 ⟨rfl, hb2⟩
  have HF2 := Lib.hid (HF1.out.next hb2)
  have d0 := HF2.out.x.cell 0
  have d1 := HF2.out.x.cell 1
  have hft := rFewT_any _ n es w2 HF2.out.g
  clear hb2 hri c0 c1
  by_cases hF : fewT n es = false
  · rw [hF] at hft
    have HFt := Lib.hid hft
    clear hR hF hft
    go_wp2_with fail
    refine HFt.out.mono ?_
    rintro e w3 ⟨rfl, hb3⟩
    have HF3 := Lib.hid (HF2.out.next hb3)
    clear hb3 d0 d1
    go_wp2_with fail
    refine (AW.out _).mono ?_
    rintro e w4 ⟨rfl, hb4⟩
    have HF4 := Lib.hid (HF3.out.next hb4)
    clear hb4
    go_wp2
    go_ret
    exact ⟨rfl, HF4.out.b⟩
  have hF : fewT n es = true := by simpa using hF
  rw [hF] at hft
  obtain ⟨m, hcg⟩ := cntG_of hR hF
  have HFt := Lib.hid hft
  have HC := Lib.hid hcg
  clear hR hF hft hcg
  go_wp2_with fail
  refine HFt.out.mono ?_
  rintro e w3 ⟨rfl, hb3⟩
  have HF3 := Lib.hid (HF2.out.next hb3)
  clear hb3 d0 d1 HFt HF2 HF1
  -- the degree, the classes
  have HF3d := Lib.hid (HF3.out.next ((Below.refl w3.heap.size w3).drew))
  have e0 : w3.drew.cell? ⟨w.heap.size, 0, none⟩ = some (.int .i64 n) := HF3d.out.x.cell 0
  have e1 : w3.drew.cell? ⟨w.heap.size, 1, none⟩ = some (.slice A es.length c) := HF3d.out.x.cell 1
  have hto := rTot_any _ d w3.drew HF3d.out.d (by have := HC.out.dl; have := HC.out.m4; omega) (HC.out.db.mono (by decide))
  have hcl := Classes_any _ n es d.sum w3.drew HF3d.out.g HC.out.sm fun m _ hr => cf_ok hr
  obtain ⟨sd, hsd⟩ : ∃ sd, sd = d.sum := ⟨_, rfl⟩
  rw [← hsd] at hto hcl
  have HSd := Lib.hid hsd
  have HTo := Lib.hid hto
  have HCl := Lib.hid hcl
  have HSa : Hid (w3.drew.cell? ⟨w.heap.size, 0, none⟩ = some (.int .i64 n) ∧ w3.drew.cell? ⟨w.heap.size, 1, none⟩ = some (.slice A es.length c)) := ⟨e0, e1⟩
  clear hsd hto hcl e0 e1
  go_wp2_with fail
  go_region_held3 (fun W' : World => W'.cell? ⟨w.heap.size, 0, none⟩ = some (.int .i64 n) ∧ W'.cell? ⟨w.heap.size, 1, none⟩ = some (.slice A es.length c)) (first | exact HSa.out | exact HSc.out)
    (first | (go_at_call 8; (with_reducible refine HTo.out.mono ?_); rintro e w8 ⟨rfl, rfl⟩) | (go_at_call 7; (with_reducible refine HCl.out.mono ?_); rintro e w4 ⟨vl, u, er, rfl, hl4, hb4, hp4⟩; have HL4 := Lib.hid hl4; have HP4 := Lib.hid hp4; have HF4 := Lib.hid (HF3d.out.next hb4); have HSc : Hid (w4.cell? ⟨w.heap.size, 0, none⟩ = some (.int .i64 n) ∧ w4.cell? ⟨w.heap.size, 1, none⟩ = some (.slice A es.length c)) := ⟨HF4.out.x.cell 0, HF4.out.x.cell 1⟩; clear hl4 hb4 hp4))
  have hp4 := HP4.out
  rw [HSd.out] at hp4
  obtain ⟨rfl, -, -⟩ := cls_ok HC.out hp4
  have HP5 := Lib.hid hp4
  have f0 := HSc.out.1
  have f1 := HSc.out.2
  have htr := trees_any _ m es w4 (by rw [← HC.out.nm]; exact HF4.out.g) HC.out.rt.ed (by rw [← HC.out.nm]; exact (eGiven_ok HC.out.g0).1) HC.out.m4 HC.out.m8 HC.out.rt.nn HC.out.rt.cn HF4.out.t
  obtain ⟨S, hS⟩ : ∃ S, zV (treeN m es) = .string S := ⟨_, rfl⟩
  rw [hS] at htr
  have HTr := Lib.hid htr
  have HS := Lib.hid hS
  clear htr hS hp4 HP4 HSa HCl HTo
  go_wp2_with fail
  refine HTr.out.mono ?_
  rintro e w5 ⟨rfl, hb5⟩
  have HF5 := Lib.hid (HF4.out.next hb5)
  have HL5 := Lib.hid (HL4.out.below hb5)
  have g0 := HF5.out.x.cell 0
  have g1 := HF5.out.x.cell 1
  have HNo := Lib.hid (Normal_any _ _ n es d w5 HF5.out.g HF5.out.d HC.out.sm HC.out.lw)
  clear hb5 HL4 HTr HSc f0 f1
  go_wp2_with fail
  refine HNo.out.mono ?_
  rintro e w6 ⟨vr, r, er', rfl, ho6, hb6, hp6⟩
  obtain ⟨-, rfl, hck⟩ := counts_ok HC.out HP5.out hp6
  have HCk := Lib.hid hck
  have HG6 := Lib.hid (show LG w (.agg #[.int .i64 n, .slice A es.length c]) [.int .i64 n, .slice A es.length c] n es (.slice A2 d.length c2) d vl u vr r w6 from ⟨HF5.out.next hb6, HL5.out.below hb6, ho6.rv⟩)
  have hof := zOf_any (u.length : Int) w6 (by have := hck.few; unfold B15; omega)
  have HOf := Lib.hid hof
  have hne : 0 < u.length := by
    have := hck.one
    cases u with
    | nil => simp at this
    | cons x t => simp
  have HNe := Lib.hid hne
  have hfw := hck.few
  obtain ⟨Al, cl, rfl, hlc, -, hel⟩ := (LG.l HG6.out).open_
  obtain ⟨ad, _, _, _, rfl, -⟩ := hel 0 hne
  clear ho6 hb6 hp6 hck hof HNo HP5 g0 g1 hel hne HF5 HL5
  go_wp2_with fail
  refine HOf.out.mono ?_
  rintro e w7 ⟨v7, rfl, hb7, hzs⟩
  obtain rfl : v7 = .string S := by rw [zs_zv hzs (by omega), HCk.out.len]; exact HS.out
  have HG7 := Lib.hid (HG6.out.next hb7)
  clear hb7 hzs HOf HG6
  clear HF4 HF3 HF3d
  go_wp2
  go_loopw [11, 61] (fun cv iv wr => ∃ (i : Nat) (z : Int), i ≤ u.length ∧ cv = .int .i64 z ∧ iv = .int .i64 (i : Int) ∧ 0 ≤ z ∧ z ≤ i ∧ Hid (z = ((u.take i).count r : Int)) ∧ Hid (LG w (.agg #[.int .i64 n, .slice A es.length c]) [.int .i64 n, .slice A es.length c] n es (.slice A2 d.length c2) d (.slice (some ad) u.length cl) u vr r wr)) (fun _ iv _ => u.length - (intOf iv).toNat)
  case atStart => exact ⟨0, 0, Nat.zero_le _, rfl, rfl, by omega, by omega, by show _ = _; simp, HG7.out⟩
  case round =>
    obtain ⟨i, z, hi, rfl, rfl, hz0, hz1, hcz, hlg⟩ := hrel
    clear HG7
    by_cases hlt : i < u.length
    · obtain ⟨x, A1, c1, hab, hx, hcl, hrx⟩ := RR.at_ (LG.l hlg.out) hlt
      have hxm : x ∈ u := List.mem_of_getElem? hx
      have hck := HCk.out
      have t1 : ((x.length : Int) != n) = false := by have := hck.xl x hxm; rw [HC.out.nm, this]; simp
      have k0 : wr.cell? ⟨w.heap.size, 0, none⟩ = some (.int .i64 n) := hlg.out.f.x.cell 0
      have k1 : wr.cell? ⟨w.heap.size, 1, none⟩ = some (.slice A es.length c) := hlg.out.f.x.cell 1
      have htx := rTot_any _ x wr hrx (by have := hck.xl x hxm; have := HC.out.m4; omega) (hck.xb x hxm)
      have htd := rTot_any _ d wr hlg.out.f.d (by have := HC.out.dl; have := HC.out.m4; omega) (HC.out.db.mono (by decide))
      rw [hck.xs x hxm, ← HSd.out] at htx
      rw [← HSd.out] at htd
      have HTx := Lib.hid htx
      have HTd := Lib.hid htd
      have HRx := Lib.hid hrx
      have HXi := Lib.hid hx
      have hxq := hck.xq x hxm
      have HEQ := Lib.hid (EquivalentQ_any _ _ _ n es d x wr hlg.out.f.g hlg.out.f.d hrx HC.out.sm HC.out.lw (x.getD 0 0) hxq.2 (fun m' hm => (show m' = m + 1 by have := HC.out.nm; omega) ▸ hxq.1))
      have HEv : Hid (∀ bb s er, EqvP n es d x bb s er → er = 0 ∧ bb = decide (x = r) ∧ (bb = true → verifyE n es d x s = 0)) := by rw [HC.out.nm]; exact hck.eqv x hxm
      have w1 : IntKind.i64.wrap (z + 1) = z + 1 := IntWalk.i64_in _ (by omega)
      by_cases hi0 : i = 0
      · have hpi : ¬ 0 < (i : Int) := by omega
        clear hi0 hck hxm hx hrx htx htd hxq
        go_wp2_with fail
        refine HTx.out.mono ?_
        rintro e w8 ⟨rfl, rfl⟩
        go_wp2_with fail
        (with_reducible refine HTd.out.mono ?_)
        rintro e w8 ⟨rfl, rfl⟩
        clear HTx HTd hcl hab
        go_wp2_with fail
        refine HEQ.out.mono ?_
        rintro e w8 ⟨bb, v8, s8, er8, rfl, ho8, hb8, hp8⟩
        obtain ⟨rfl, hbb, hver⟩ := HEv.out bb s8 er8 hp8
        have HG8 := Lib.hid (hlg.out.next hb8)
        have HX8 := Lib.hid (RI.below HRx.out hb8)
        have hqe := EqualD_any _ _ x r w8 HX8.out (LG.r HG8.out)
        by_cases hxr : x = r
        · rw [(eqL_iff _ _).2 hxr] at hqe
          rw [decide_eq_true hxr] at hbb
          subst hbb
          have HQe := Lib.hid hqe
          have hve := fun j => Verify_any _ _ _ _ n es d x s8 (w8.drewN j) (HG8.out.next (below_drewN (Below.refl _ _) j)).f.g (HG8.out.next (below_drewN (Below.refl _ _) j)).f.d (RI.below HX8.out (below_drewN (Below.refl _ _) j)) (RI.below ho8.rv (below_drewN (Below.refl _ _) j))
          rw [hver rfl] at hve
          have HVe := Lib.hid hve
          have HC1 : Hid (z + 1 = ((u.take (i + 1)).count r : Int)) := by show _ = _; rw [count_next HXi.out, if_pos hxr, hcz.out]; rfl
          have HCell : Hid (∀ j, (w8.drewN j).cell? ⟨w.heap.size, 0, none⟩ = some (.int .i64 n) ∧ (w8.drewN j).cell? ⟨w.heap.size, 1, none⟩ = some (.slice A es.length c)) := fun j => ⟨(HG8.out.next (below_drewN (Below.refl _ _) j)).f.x.cell 0, (HG8.out.next (below_drewN (Below.refl _ _) j)).f.x.cell 1⟩
          clear ho8 hb8 hp8 hver hqe hve hxr k0 k1 HEQ
          go_wp2_with fail
          refine HQe.out.mono ?_
          rintro e w9 ⟨rfl, j, rfl⟩
          have HV := Lib.hid (HVe.out j)
          have q0 := (HCell.out j).1
          have q1 := (HCell.out j).2
          have HG9 := Lib.hid (HG8.out.next (below_drewN (Below.refl _ _) j))
          clear HVe HCell HQe
          generalize w8.drewN j = w9 at *
          go_wp2_with fail
          refine HV.out.mono ?_
          rintro e w10 ⟨rfl, hb10⟩
          have HG10 := Lib.hid (HG9.out.next hb10)
          clear hb10 HV q0 q1
          go_wp2
          go_roundw
          case rel => exact ⟨i + 1, z + 1, by omega, rfl, by go_num, by omega, by omega, HC1.out, HG10.out⟩
          case measure => simp [intOf]; omega
        · rw [Bool.eq_false_iff.2 (fun h => hxr ((eqL_iff _ _).1 h))] at hqe
          rw [decide_eq_false hxr] at hbb
          subst hbb
          have HQe := Lib.hid hqe
          have HC1 : Hid (z = ((u.take (i + 1)).count r : Int)) := by show _ = _; rw [count_next HXi.out, if_neg hxr, hcz.out]; rfl
          clear ho8 hb8 hp8 hver hqe hxr k0 k1 HEQ
          go_wp2_with fail
          refine HQe.out.mono ?_
          rintro e w9 ⟨rfl, j, rfl⟩
          have HG9 := Lib.hid (HG8.out.next (below_drewN (Below.refl _ _) j))
          clear HQe
          generalize w8.drewN j = w9 at *
          go_wp2
          go_roundw
          case rel => exact ⟨i + 1, z, by omega, rfl, by go_num, by omega, by omega, HC1.out, HG9.out⟩
          case measure => simp [intOf]; omega
      · obtain ⟨j, hj⟩ : ∃ j, i = j + 1 := ⟨i - 1, by omega⟩
        obtain ⟨p, Ap, cp, -, hp, hcp, hrp⟩ := RR.at_ (k := j) (LG.l hlg.out) (by omega)
        have hcm := cmpD_any _ _ p x wr hrp hrx
        have hlz := hck.srt j p x hp (by rw [← hj]; exact hx)
        obtain ⟨cz, hczz⟩ : ∃ cz, cz = cmpL p x := ⟨_, rfl⟩
        rw [← hczz] at hcm hlz
        have HCm := Lib.hid hcm
        have hpi : 0 < (i : Int) := by omega
        have hjl : (j : Int) < u.length := by omega
        have w2 : IntKind.i64.wrap ((i : Int) - 1) = (j : Int) := by rw [IntWalk.i64_in _ (by omega)]; omega
        have hnz : ¬ 0 ≤ cz := by omega
        clear hck hxm hx hrx htx htd hxq hp hrp hcm hczz hj hi0 hlz
        go_wp2_with fail
        refine HTx.out.mono ?_
        rintro e w8 ⟨rfl, rfl⟩
        go_wp2_with fail
        (with_reducible refine HTd.out.mono ?_)
        rintro e w8 ⟨rfl, rfl⟩
        clear HTx HTd
        go_wp2_with fail
        refine HCm.out.mono ?_
        rintro e w8 ⟨rfl, rfl⟩
        clear HCm hcl hcp hab hpi hjl w2
        go_wp2_with fail
        refine HEQ.out.mono ?_
        rintro e w8 ⟨bb, v8, s8, er8, rfl, ho8, hb8, hp8⟩
        obtain ⟨rfl, hbb, hver⟩ := HEv.out bb s8 er8 hp8
        have HG8 := Lib.hid (hlg.out.next hb8)
        have HX8 := Lib.hid (RI.below HRx.out hb8)
        have hqe := EqualD_any _ _ x r w8 HX8.out (LG.r HG8.out)
        by_cases hxr : x = r
        · rw [(eqL_iff _ _).2 hxr] at hqe
          rw [decide_eq_true hxr] at hbb
          subst hbb
          have HQe := Lib.hid hqe
          have hve := fun j => Verify_any _ _ _ _ n es d x s8 (w8.drewN j) (HG8.out.next (below_drewN (Below.refl _ _) j)).f.g (HG8.out.next (below_drewN (Below.refl _ _) j)).f.d (RI.below HX8.out (below_drewN (Below.refl _ _) j)) (RI.below ho8.rv (below_drewN (Below.refl _ _) j))
          rw [hver rfl] at hve
          have HVe := Lib.hid hve
          have HC1 : Hid (z + 1 = ((u.take (i + 1)).count r : Int)) := by show _ = _; rw [count_next HXi.out, if_pos hxr, hcz.out]; rfl
          have HCell : Hid (∀ j, (w8.drewN j).cell? ⟨w.heap.size, 0, none⟩ = some (.int .i64 n) ∧ (w8.drewN j).cell? ⟨w.heap.size, 1, none⟩ = some (.slice A es.length c)) := fun j => ⟨(HG8.out.next (below_drewN (Below.refl _ _) j)).f.x.cell 0, (HG8.out.next (below_drewN (Below.refl _ _) j)).f.x.cell 1⟩
          clear ho8 hb8 hp8 hver hqe hve hxr k0 k1 HEQ
          go_wp2_with fail
          refine HQe.out.mono ?_
          rintro e w9 ⟨rfl, j, rfl⟩
          have HV := Lib.hid (HVe.out j)
          have q0 := (HCell.out j).1
          have q1 := (HCell.out j).2
          have HG9 := Lib.hid (HG8.out.next (below_drewN (Below.refl _ _) j))
          clear HVe HCell HQe
          generalize w8.drewN j = w9 at *
          go_wp2_with fail
          refine HV.out.mono ?_
          rintro e w10 ⟨rfl, hb10⟩
          have HG10 := Lib.hid (HG9.out.next hb10)
          clear hb10 HV q0 q1
          go_wp2
          go_roundw
          case rel => exact ⟨i + 1, z + 1, by omega, rfl, by go_num, by omega, by omega, HC1.out, HG10.out⟩
          case measure => simp [intOf]; omega
        · rw [Bool.eq_false_iff.2 (fun h => hxr ((eqL_iff _ _).1 h))] at hqe
          rw [decide_eq_false hxr] at hbb
          subst hbb
          have HQe := Lib.hid hqe
          have HC1 : Hid (z = ((u.take (i + 1)).count r : Int)) := by show _ = _; rw [count_next HXi.out, if_neg hxr, hcz.out]; rfl
          clear ho8 hb8 hp8 hver hqe hxr k0 k1 HEQ
          go_wp2_with fail
          refine HQe.out.mono ?_
          rintro e w9 ⟨rfl, j, rfl⟩
          have HG9 := Lib.hid (HG8.out.next (below_drewN (Below.refl _ _) j))
          clear HQe
          generalize w8.drewN j = w9 at *
          go_wp2
          go_roundw
          case rel => exact ⟨i + 1, z, by omega, rfl, by go_num, by omega, by omega, HC1.out, HG9.out⟩
          case measure => simp [intOf]; omega
    · obtain rfl : i = u.length := by omega
      have hz := hcz.out
      rw [List.take_length, HCk.out.one] at hz
      obtain rfl : z = 1 := hz
      have HB := Lib.hid hlg.out.f.b
      clear hcz hlg hlt hi hz0 hz1
      go_wp2_with fail
      refine (AW.out _).mono ?_
      rintro e w8 ⟨rfl, hb8⟩
      have HB8 := Lib.hid (HB.out.trans (hb8.mono HB.out.size))
      clear hb8
      go_wp2
      go_ret
      exact ⟨rfl, HB8.out⟩
end Go.Proofs.YtjfggodnfoknfaaGreatDoor

