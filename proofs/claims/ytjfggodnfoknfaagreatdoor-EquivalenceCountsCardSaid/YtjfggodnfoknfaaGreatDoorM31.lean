/- The Laplacian's entries, edge by edge (plain).
   Contract of full's function.
   Contract of laplacian.full.
   Contracts of laplacian.Full, minor, Cofactor and Trees. -/
import Derived.Test.YtjfggodnfoknfaaGreatDoorM30
set_option maxRecDepth 100000
set_option maxHeartbeats 16000000
namespace Go.Proofs.YtjfggodnfoknfaaGreatDoor
/-- What an edge adds to an entry. -/
def cE (t : Tri) (i j : Nat) : Int := (if i = j ∧ t.1 = (i : Int) then t.2.2 else 0) + (if i = j ∧ t.2.1 = (i : Int) then t.2.2 else 0) - (if t.1 = (i : Int) ∧ t.2.1 = (j : Int) then t.2.2 else 0) - (if t.2.1 = (i : Int) ∧ t.1 = (j : Int) then t.2.2 else 0)
def lpE : List Tri → Nat → Nat → Int
  | [], _, _ => 0
  | t :: r, i, j => cE t i j + lpE r i j
theorem lpE_snoc (l : List Tri) (t : Tri) (i j : Nat) : lpE (l ++ [t]) i j = lpE l i j + cE t i j := by
  induction l with
  | nil => simp [lpE]
  | cons a l ih => simp only [List.cons_append, lpE]; rw [ih]; omega
theorem cE_bd {t : Tri} (hm : 0 ≤ t.2.2) (hne : ¬ t.1 = t.2.1) (i j : Nat) : ((cE t i j).natAbs : Int) ≤ t.2.2 := by
  have _ := hne
  unfold cE
  split <;> split <;> split <;> split <;> omega
theorem lpE_bd {es : List Tri} (hm : ∀ t ∈ es, 0 ≤ t.2.2) (i j : Nat) : ((lpE (nonL es) i j).natAbs : Int) ≤ multS es := by
  induction es with
  | nil => simp [nonL, lpE, multS]
  | cons t r ih =>
    have h1 := ih fun x hx => hm x (List.mem_cons_of_mem _ hx)
    have h2 := hm t (List.mem_cons_self ..)
    rw [multS_cons]
    by_cases hne : t.1 ≠ t.2.1
    · rw [show nonL (t :: r) = t :: nonL r by simp [nonL, hne]]
      have := cE_bd h2 hne i j
      simp only [lpE]
      omega
    · rw [show nonL (t :: r) = nonL r by simp [nonL, hne]]
      omega
theorem sum_ewN {n : Nat} {t : Tri} (h0 : 0 ≤ t.1 ∧ t.1 < n ∧ 0 ≤ t.2.1 ∧ t.2.1 < n) (i : Nat) : sumN n (ew t i) = if t.1 ≠ t.2.1 ∧ (t.1 = (i : Int) ∨ t.2.1 = (i : Int)) then t.2.2 else 0 := by
  by_cases hc : t.1 ≠ t.2.1 ∧ (t.1 = (i : Int) ∨ t.2.1 = (i : Int))
  · rw [if_pos hc]
    obtain ⟨hne, h1⟩ := hc
    obtain ⟨a, ha⟩ := Int.eq_ofNat_of_zero_le h0.1
    obtain ⟨b, hb⟩ := Int.eq_ofNat_of_zero_le h0.2.2.1
    by_cases hi : a = i
    · rw [sumN_one (c := b) (by omega)]
      · unfold ew; rw [if_pos ⟨hne, .inl ⟨by omega, by omega⟩⟩]
      · intro u hu hub
        unfold ew
        rw [if_neg]; rintro ⟨-, h | h⟩ <;> omega
    · rw [sumN_one (c := a) (by omega)]
      · unfold ew; rw [if_pos ⟨hne, .inr ⟨by omega, by omega⟩⟩]
      · intro u hu hub
        unfold ew
        rw [if_neg]; rintro ⟨-, h | h⟩ <;> omega
  · rw [if_neg hc]
    have : ∀ u, u < n → ew t i u = 0 := fun u _ => by
      unfold ew
      rw [if_neg]
      rintro ⟨h1, h2⟩
      exact hc ⟨h1, by omega⟩
    rw [sumN_congr this]
    clear this hc h0
    induction n with
    | zero => rfl
    | succ n ih => simp only [sumN]; rw [ih]; rfl
theorem lpE_lapT {n : Nat} {es : List Tri} (hE : ∀ t ∈ es, 0 ≤ t.1 ∧ t.1 < n ∧ 0 ≤ t.2.1 ∧ t.2.1 < n) (i j : Nat) : lpE (nonL es) i j = lapT n (wgt es) i j := by
  induction es with
  | nil =>
    have : sumN n (wgt [] i) = 0 := by
      have h : ∀ n, sumN n (wgt [] i) = 0 := fun n => by
        induction n with
        | zero => rfl
        | succ n ih => simp only [sumN]; rw [ih]; rfl
      exact h n
    unfold lapT
    rw [this]
    simp [nonL, lpE, wgt]
  | cons t r ih =>
    have h1 := ih fun x hx => hE x (List.mem_cons_of_mem _ hx)
    have h2 := hE t (List.mem_cons_self ..)
    have hs : sumN n (wgt (t :: r) i) = sumN n (ew t i) + sumN n (wgt r i) := sumN_add n (ew t i) (wgt r i)
    have h3 : lapT n (wgt (t :: r)) i j = (if i = j then sumN n (ew t i) else 0) - ew t i j + lapT n (wgt r) i j := by
      unfold lapT
      rw [hs, show wgt (t :: r) i j = ew t i j + wgt r i j from rfl]
      split <;> omega
    rw [h3, sum_ewN h2, ← h1]
    by_cases hne : t.1 ≠ t.2.1
    · rw [show nonL (t :: r) = t :: nonL r by simp [nonL, hne]]
      simp only [lpE]
      congr 1
      unfold cE ew
      by_cases hij : i = j
      · subst hij
        by_cases ha : t.1 = (i : Int) <;> by_cases hb : t.2.1 = (i : Int)
        · exact absurd (ha.trans hb.symm) hne
        · simp [ha, hb]; intro h; exact absurd h.symm hb
        · simp [ha, hb]
        · simp [ha, hb]
      · simp only [hij, false_and, if_false]
        by_cases ha : t.1 = (i : Int) ∧ t.2.1 = (j : Int)
        · rw [if_pos ha, if_neg (by omega), if_pos ⟨hne, .inl ha⟩]; omega
        · by_cases hb : t.2.1 = (i : Int) ∧ t.1 = (j : Int)
          · rw [if_neg ha, if_pos hb, if_pos ⟨hne, .inr ⟨hb.2, hb.1⟩⟩]; omega
          · rw [if_neg ha, if_neg hb, if_neg (by rintro ⟨-, h | h⟩; exact ha h; exact hb ⟨h.2, h.1⟩)]; omega
    · rw [show nonL (t :: r) = nonL r by simp [nonL, hne]]
      have : ew t i j = 0 := by unfold ew; rw [if_neg (fun h => hne h.1)]
      rw [this]
      split
      · rw [if_neg (fun h => hne h.1)]; omega
      · omega
/-- The list of a table's entries. -/
def CVz (n : Nat) (zs : List Int) (f : Nat → Nat → Int) : Prop := zs.length = n * n ∧ ∀ i j, i < n → j < n → zs.getD (i * n + j) 0 = f i j
theorem idx_inj {n i j a b : Nat} (hj : j < n) (hb : b < n) (h : i * n + j = a * n + b) : i = a ∧ j = b := by
  have h1 : (i * n + j) / n = i := by rw [Nat.mul_comm, Nat.mul_add_div (by omega), Nat.div_eq_of_lt hj]; rfl
  have h2 : (a * n + b) / n = a := by rw [Nat.mul_comm, Nat.mul_add_div (by omega), Nat.div_eq_of_lt hb]; rfl
  have e : i = a := by rw [← h1, h, h2]
  subst e
  exact ⟨rfl, by omega⟩
theorem idx_lt {n i j : Nat} (hi : i < n) (hj : j < n) : i * n + j < n * n := by
  have := Nat.mul_le_mul_right n (show i + 1 ≤ n by omega)
  rw [Nat.succ_mul] at this
  omega
theorem CVz.add {n : Nat} {zs : List Int} {f : Nat → Nat → Int} (h : CVz n zs f) {r c : Nat} (hr : r < n) (hc : c < n) (x : Int) : CVz n (zs.set (r * n + c) (zs.getD (r * n + c) 0 + x)) (fun i j => f i j + if i = r ∧ j = c then x else 0) := by
  obtain ⟨h1, h2⟩ := h
  have hlt := idx_lt hr hc
  refine ⟨by rw [List.length_set, h1], fun i j hi hj => ?_⟩
  rw [List.getD_eq_getElem?_getD, List.getElem?_set]
  by_cases hij : i = r ∧ j = c
  · obtain ⟨rfl, rfl⟩ := hij
    rw [if_pos rfl, if_pos (by omega), h2 i j hi hj]; simp
  · rw [if_neg (fun e => hij (let ⟨a, b⟩ := idx_inj hc hj e; ⟨a.symm, b.symm⟩)), ← List.getD_eq_getElem?_getD, h2 i j hi hj]; simp [hij]
end Go.Proofs.YtjfggodnfoknfaaGreatDoor

namespace Go.Proofs.YtjfggodnfoknfaaGreatDoor
open Go.RowKit
theorem full1_any (bC bG Z n r c B cap : Nat) (x : Int) (zs : List Int) (w : World) (hc : w.cell? ⟨bC, 0, none⟩ = some (.slice (some ⟨Z, 0, none⟩) (n * n) cap)) (hg : w.cell? ⟨bG, 0, none⟩ = some (.int .i64 (n : Int))) (hZ : OI w B (.slice (some ⟨Z, 0, none⟩) (n * n) cap) zs)
    (hn : n ≤ 6) (hr : r < n) (hcn : c < n) (hl : zs.length = n * n) (hz : (zs.getD (r * n + c) 0).natAbs ≤ 100000) (hx : x.natAbs ≤ 100000) :
    Calls Tryz.prog 153 #[.int .i64 (r : Int), .int .i64 (c : Int), .int .i64 x, .pointer (some ⟨bC, 0, none⟩), .pointer (some ⟨bG, 0, none⟩)] w fun e w' => (∃ v, e = .returned v) ∧ w' = w.setCell ⟨Z, r * n + c, none⟩ (.int .i64 (zs.getD (r * n + c) 0 + x)) := by
  have hlt := idx_lt hr hcn
  obtain ⟨-, -, hcell, hfr, -⟩ := OI.at' hZ (show r * n + c < zs.length by omega)
  have hp : (r : Int) * (n : Int) = ((r * n : Nat) : Int) := by simp
  have hple : r * n ≤ 36 := Nat.le_trans (Nat.mul_le_mul (by omega : r ≤ 6) hn) (by omega)
  have hnn : n * n ≤ 36 := Nat.le_trans (Nat.mul_le_mul hn hn) (by omega)
  generalize r * n = p at *
  have hq : (p : Int) + (c : Int) = ((p + c : Nat) : Int) := by simp
  generalize p + c = q at *
  have w1 : wrap64 (p : Int) = (p : Int) := wrap64_small p (by omega)
  have w2 : wrap64 (q : Int) = (q : Int) := wrap64_small q (by omega)
  generalize n * n = nn at *
  have hlt2 : (q : Int) < (nn : Int) := by omega
  generalize zs.getD q 0 = y at *
  have w3 : wrap64 (y + x) = y + x := by rw [IntWalk.wrap64_in] <;> omega
  clear hZ hn hr hcn hl hz hx hple hnn
  go_enter Tryz.func153, Tryz.ntmps153
  go_wp2
  refine bodyPost_end (results_none rfl _ _ _) rfl ?_
  exact ⟨⟨_, rfl⟩, rfl⟩
theorem linksG_any (n c : Nat) (A : Option Addr) (len : Nat) (w : World) : Calls Tryz.prog 154 #[.agg #[.int .i64 (n : Int), .slice A len c]] w fun e w' =>
    e = .returned (.func (.func 175) #[] #[.pointer (some ⟨w.heap.size, 0, none⟩)]) ∧ w.alloc (.cells #[.int .i64 (n : Int), .slice A len c] 24) = w' := by
  go_enter Tryz.func154, Tryz.ntmps154
  go_wp2
  go_ret
  exact ⟨rfl, rfl⟩
end Go.Proofs.YtjfggodnfoknfaaGreatDoor

namespace Go.Proofs.YtjfggodnfoknfaaGreatDoor
open Go.RowKit Go.Shelf
attribute [local go_sem] Oper.semAt_some
theorem make_ints (q : Nat) (hq : q ≤ 1000) (W : World) : (Instr.makeSlice 25 (.int .i64 (q : Int)) (.int .i64 (q : Int))).run Tryz.prog W = .ok (.slice (some ⟨W.heap.size, 0, none⟩) q q) (W.alloc (.cells (madeCells #[.int .i64 0] q) 3)) := by
  obtain ⟨i0, hi, hz0, hz1, hz2⟩ := info_parts int_info
  have := run_make (P := Tryz.prog) W 25 3 i0 (.int .i64 0) Tryz.underlying25 hi hz0 .i64 .i64 q q (by omega) (Int.le_refl _) (by rw [hz2]; omega) (by omega)
  simp only [Int.toNat_natCast, hz1, Nat.mul_one] at this
  exact this
theorem made_oi (q : Nat) (hq : q ≤ 1000) (W : World) : OI (W.alloc (.cells (madeCells #[.int .i64 0] q) 3)) W.heap.size (.slice (some ⟨W.heap.size, 0, none⟩) q q) (List.replicate q 0) := by
  have h := World.ownsRow_lit (e := 3) (size := 1) W (madeCells #[.int .i64 0] q) q (Nat.le_refl W.heap.size) (by unfold maxLen; omega) (by rw [size_madeCells, Nat.mul_one])
  refine ⟨?_, by simp; omega⟩
  have e : (madeCells #[Value.int .i64 0] q).toList = (List.replicate q (0 : Int)).map (Value.int .i64) := by rw [toList_madeCells_one, List.map_replicate]
  rw [e] at h
  simpa using h
/-- The Laplacian in the making: the entries are f. -/
def FuI (w : World) (n q : Nat) (A : Option Addr) (len c : Nat) (f : Nat → Nat → Int) (W : World) : Prop :=
  BL W w.heap.size 24 [.int .i64 (n : Int), .slice A len c] ∧ BL W (w.heap.size + 1) 84 [.int .i64 0, .int .i64 0, .slice none 0 0] ∧
  BL W (w.heap.size + 1 + 1 + 1) 25 [.slice (some ⟨w.heap.size + 1 + 1, 0, none⟩) q q] ∧
  BL W (w.heap.size + 1 + 1 + 1 + 1) 209 [.func (.func 153) #[] #[.pointer (some ⟨w.heap.size + 1 + 1 + 1, 0, none⟩), .pointer (some ⟨w.heap.size, 0, none⟩)]] ∧
  (∃ zs, OI W (w.heap.size + 1 + 1) (.slice (some ⟨w.heap.size + 1 + 1, 0, none⟩) q q) zs ∧ CVz n zs f) ∧ Below w.heap.size w W
theorem FuI.bel {w W W' : World} {n q len c : Nat} {A : Option Addr} {f : Nat → Nat → Int} (h : FuI w n q A len c f W) (hb : Below W.heap.size W W') : FuI w n q A len c f W' := by
  obtain ⟨h1, h2, h3, h4, ⟨zs, h5, h6⟩, h7⟩ := h
  exact ⟨h1.bel hb, h2.bel hb, h3.bel hb, h4.bel hb, ⟨zs, h5.below hb, h6⟩, h7.trans (hb.mono h7.size)⟩
theorem FuI.put {w W : World} {n q len c : Nat} {A : Option Addr} {f : Nat → Nat → Int} (h : FuI w n q A len c f W) {l : Nat} {r : Loop} (hl : W.heap[l]? = some (.loop r)) (hle : w.heap.size ≤ l) (o : Obj) : FuI w n q A len c f (W.putObj l o) := by
  obtain ⟨h1, h2, h3, h4, ⟨zs, h5, h6⟩, h7⟩ := h
  exact ⟨h1.putLoop hl o, h2.putLoop hl o, h3.putLoop hl o, h4.putLoop hl o, ⟨zs, ovLoop h5 hl o, h6⟩, below_putLoop h7 hle o⟩
theorem FuI.congr {w W : World} {n q len c : Nat} {A : Option Addr} {f f' : Nat → Nat → Int} (h : FuI w n q A len c f W) (hf : ∀ i j, f i j = f' i j) : FuI w n q A len c f' W := by
  obtain ⟨h1, h2, h3, h4, ⟨zs, h5, h6⟩, h7⟩ := h
  exact ⟨h1, h2, h3, h4, ⟨zs, h5, h6.1, fun i j hi hj => by rw [h6.2 i j hi hj, hf]⟩, h7⟩
theorem fu_step {w W : World} {n q len c : Nat} {A : Option Addr} {f : Nat → Nat → Int} (h : FuI w n q A len c f W) (hq : q = n * n) (hn : n ≤ 6) (hf : ∀ i j, i < n → j < n → (f i j).natAbs ≤ 100000) {r k : Nat} (hr : r < n) (hk : k < n) (x : Int) (hx : x.natAbs ≤ 100000) :
    Calls Tryz.prog 153 #[.int .i64 (r : Int), .int .i64 (k : Int), .int .i64 x, .pointer (some ⟨w.heap.size + 1 + 1 + 1, 0, none⟩), .pointer (some ⟨w.heap.size, 0, none⟩)] W fun e w' => (∃ v, e = .returned v) ∧
      FuI w n q A len c (fun i j => f i j + if i = r ∧ j = k then x else 0) w' ∧ w'.heap.size = W.heap.size ∧ ∀ b, b ≠ w.heap.size + 1 + 1 → w'.heap[b]? = W.heap[b]? := by
  obtain ⟨h1, h2, h3, h4, ⟨zs, h5, h6⟩, h7⟩ := h
  have hlt := idx_lt hr hk
  have hzf := h6.2 r k hr hk
  have hat := OI.at' h5 (show r * n + k < zs.length by rw [h6.1]; exact hlt)
  subst hq
  refine (full1_any _ _ _ n r k _ _ x zs W (h3.cell 0) (h1.cell 0) h5 hn hr hk h6.1 (by rw [hzf]; exact hf r k hr hk) hx).mono ?_
  rintro e w' ⟨he, rfl⟩
  refine ⟨he, ⟨h1.set_other (show w.heap.size ≠ w.heap.size + 1 + 1 by omega) _, h2.set_other (show w.heap.size + 1 ≠ w.heap.size + 1 + 1 by omega) _, h3.set_other (show w.heap.size + 1 + 1 + 1 ≠ w.heap.size + 1 + 1 by omega) _, h4.set_other (show w.heap.size + 1 + 1 + 1 + 1 ≠ w.heap.size + 1 + 1 by omega) _, ⟨_, (hat.2.2.2.2 _).1, h6.add hr hk x⟩, h7.setCell (p := ⟨w.heap.size + 1 + 1, _, none⟩) (show w.heap.size ≤ w.heap.size + 1 + 1 by omega) _⟩, by simp, fun b hb => heap_setCell_other _ _ _ _ (by exact hb)⟩
theorem RV.putz {W : World} {v : Value} {us : List Value} {l : Nat} {o' : Obj} (h : RV W v us) (hl : W.heap[l]? = some o') (ho : o'.isCells = false) (o : Obj) : RV (W.putObj l o) v us := by
  obtain ⟨A, c, e, h2, h3, h4⟩ := h
  refine ⟨A, c, e, h2, h3, fun k hk => ?_⟩
  obtain ⟨ad, rfl, hb, hc⟩ := h4 k hk
  refine ⟨ad, rfl, by simpa [World.putObj] using hb, ?_⟩
  have hne : (ad.add k).block ≠ l := fun e => by
    rw [List.getElem?_eq_getElem hk] at hc
    unfold World.cell? at hc
    rw [e, hl] at hc
    cases o' <;> simp at hc
    cases ho
  rw [← hc]
  unfold World.cell?
  rw [World.putObj_heap_other hne]
theorem nonL_mem {es : List Tri} {t : Tri} (h : t ∈ nonL es) : t ∈ es ∧ t.1 ≠ t.2.1 := by
  unfold nonL at h
  rw [List.mem_filter] at h
  exact ⟨h.1, by simpa using h.2⟩
theorem multS_app (l r : List Tri) : multS (l ++ r) = multS l + multS r := by simp [multS]
theorem multS_nonL {es : List Tri} (hm : ∀ t ∈ es, 0 ≤ t.2.2) : multS (nonL es) ≤ multS es := by
  induction es with
  | nil => simp [nonL]
  | cons t r ih =>
    have h1 := ih fun x hx => hm x (List.mem_cons_of_mem _ hx)
    have h2 := hm t (List.mem_cons_self ..)
    rw [multS_cons]
    by_cases hne : t.1 ≠ t.2.1
    · rw [show nonL (t :: r) = t :: nonL r by simp [nonL, hne], multS_cons]; omega
    · rw [show nonL (t :: r) = nonL r by simp [nonL, hne]]; omega
theorem nonL_self {l : List Tri} (h : ∀ t ∈ l, t.1 ≠ t.2.1) : nonL l = l := by
  unfold nonL
  rw [List.filter_eq_self]
  intro t ht
  simpa using h t ht
theorem pre_bd {es pre rest : List Tri} (hm : ∀ t ∈ es, 0 ≤ t.2.2) (h : pre ++ rest = nonL es) (i j : Nat) : ((lpE pre i j).natAbs : Int) ≤ multS es := by
  have h1 : ∀ t ∈ pre, t.1 ≠ t.2.1 ∧ 0 ≤ t.2.2 := fun t ht => by
    have := nonL_mem (es := es) (t := t) (by rw [← h]; exact List.mem_append_left _ ht)
    exact ⟨this.2, hm t this.1⟩
  have h2 := lpE_bd (es := pre) (fun t ht => (h1 t ht).2) i j
  rw [nonL_self fun t ht => (h1 t ht).1] at h2
  have h3 := multS_nonL hm
  rw [← h, multS_app] at h3
  have h4 : 0 ≤ multS rest := multS_nonneg fun t ht => hm t (nonL_mem (es := es) (by rw [← h]; exact List.mem_append_right _ ht)).1
  omega
theorem cE_four {a b : Nat} {m : Int} (f : Nat → Nat → Int) (i j : Nat) : (((f i j + if i = a ∧ j = a then m else 0) + if i = b ∧ j = b then m else 0) + if i = a ∧ j = b then -m else 0) + (if i = b ∧ j = a then -m else 0) = f i j + cE ((a : Int), (b : Int), m) i j := by
  unfold cE
  dsimp only
  split <;> split <;> split <;> split <;> split <;> split <;> split <;> split <;> omega
theorem full_any (v : Value) (n : Nat) (es : List Tri) (w : World) (hg : GV w v (n : Int) es) (hE : Edges n es) (hn : n ≤ 5) (hm : multS es ≤ 50) (ht : TB w) :
    Calls Tryz.prog 121 #[v] w fun e w' => ∃ u zs, e = .returned (.tuple #[u, .int .i64 0]) ∧ ZM w' u n n zs ∧ CVz n zs (lpE (nonL es)) ∧ Below w.heap.size w w' := by
  obtain ⟨A, c, rfl, -⟩ := hg.open_
  have hmk := make_ints (n * n) (Nat.le_trans (Nat.mul_le_mul hn hn) (by omega))
  have hp : (n : Int) * (n : Int) = ((n * n : Nat) : Int) := by simp
  have hw1 : wrap64 ((n * n : Nat) : Int) = ((n * n : Nat) : Int) := wrap64_small _ (Nat.le_trans (Nat.mul_le_mul hn hn) (by omega))
  obtain ⟨q, hq⟩ : ∃ q, q = n * n := ⟨_, rfl⟩
  rw [← hq] at hmk hp hw1
  have HQ := Lib.hid hq
  have HE := Lib.hid hE
  have HGv := Lib.hid hg
  have HM := Lib.hid hm
  have HT := Lib.hid ht
  clear hq hE hg hm ht
  refine (callsIn_wide (n := 3)).1 ?_
  refine callsIn_of_wp_marks Tryz.func121 rfl trivial ?_ rfl
  simp only [Tryz.ntmps121, List.size_toArray, List.length_cons, List.length_nil, Nat.reduceAdd, Nat.reduceSub, Array.replicate_succ, Array.replicate_zero, List.push_toArray, List.append_toArray, List.nil_append, List.cons_append]
  gi_wp2_with fail
  refine ⟨trivial, (callsIn_wide.2 (linksG_any n c A es.length _)).mono ?_⟩
  rintro e w1 ⟨rfl, rfl⟩
  clear hw1 hp
  gi_wp2
  obtain ⟨W2, hW2⟩ : ∃ W2, W2 = ((((w.alloc (.cells #[.int .i64 (n : Int), .slice A es.length c] 24)).alloc (.cells #[.int .i64 0, .int .i64 0, .slice none 0 0] 84)).alloc (.cells (madeCells #[.int .i64 0] q) 3)).alloc (.cells #[.slice (some ⟨w.heap.size + 1 + 1, 0, none⟩) q q] 25)).alloc (.cells #[.func (.func 153) #[] #[.pointer (some ⟨w.heap.size + 1 + 1 + 1, 0, none⟩), .pointer (some ⟨w.heap.size, 0, none⟩)]] 209) := ⟨_, rfl⟩
  obtain ⟨W3, hW3⟩ : ∃ W3, W3 = W2.alloc (.cells #[.int .i64 (n : Int), .slice A es.length c] 24) := ⟨_, rfl⟩
  rw [← hW2, ← hW3]
  have hs2 : W2.heap.size = w.heap.size + 1 + 1 + 1 + 1 + 1 := by rw [hW2]; simp
  have hb2 : Below w.heap.size w W2 := by rw [hW2]; go_grown
  have hf2 : FuI w n q A es.length c (fun _ _ => 0) W2 := by
    have a1 := BL.new' w #[.int .i64 (n : Int), .slice A es.length c] 24
    have a2 := BL.new' (w.alloc (.cells #[.int .i64 (n : Int), .slice A es.length c] 24)) #[.int .i64 0, .int .i64 0, .slice none 0 0] 84
    have a3 := made_oi q (by rw [HQ.out]; exact Nat.le_trans (Nat.mul_le_mul hn hn) (by omega)) ((w.alloc (.cells #[.int .i64 (n : Int), .slice A es.length c] 24)).alloc (.cells #[.int .i64 0, .int .i64 0, .slice none 0 0] 84))
    have a4 := BL.new' (((w.alloc (.cells #[.int .i64 (n : Int), .slice A es.length c] 24)).alloc (.cells #[.int .i64 0, .int .i64 0, .slice none 0 0] 84)).alloc (.cells (madeCells #[.int .i64 0] q) 3)) #[.slice (some ⟨w.heap.size + 1 + 1, 0, none⟩) q q] 25
    have a5 := BL.new' ((((w.alloc (.cells #[.int .i64 (n : Int), .slice A es.length c] 24)).alloc (.cells #[.int .i64 0, .int .i64 0, .slice none 0 0] 84)).alloc (.cells (madeCells #[.int .i64 0] q) 3)).alloc (.cells #[.slice (some ⟨w.heap.size + 1 + 1, 0, none⟩) q q] 25)) #[.func (.func 153) #[] #[.pointer (some ⟨w.heap.size + 1 + 1 + 1, 0, none⟩), .pointer (some ⟨w.heap.size, 0, none⟩)]] 209
    simp only [World.size_alloc] at a2 a3 a4 a5
    rw [hW2]
    exact ⟨(((a1.alloc _).alloc _).alloc _).alloc _, ((a2.alloc _).alloc _).alloc _, a4.alloc _, a5, ⟨_, (a3.below (below_alloc _ _)).below (below_alloc _ _), by simp [HQ.out], fun i j _ _ => by rw [List.getD_eq_getElem?_getD, List.getElem?_replicate]; split <;> rfl⟩, by rw [← hW2]; exact hb2⟩
  have hb3 : Below W2.heap.size W2 W3 := by rw [hW3]; exact below_alloc W2 _
  have hs3 : W3.heap.size = w.heap.size + 1 + 1 + 1 + 1 + 1 + 1 := by rw [hW3]; simp [hs2]
  have hf3 := hf2.bel hb3
  have hx3 : BL W3 W2.heap.size 24 [.int .i64 (n : Int), .slice A es.length c] := by rw [hW3]; exact BL.new' W2 _ _
  obtain ⟨eb, heb, hebl⟩ : ∃ eb, EB W3 (.slice A es.length c) es eb ∧ eb < w.heap.size + 1 := by
    obtain ⟨ev', hev', hEV'⟩ := HGv.out
    simp only [Value.agg.injEq] at hev'
    obtain rfl : ev' = .slice A es.length c := by simpa using hev'.symm
    obtain ⟨eb, h1, h2⟩ := (hEV'.below (below_alloc w (.cells #[.int .i64 (n : Int), .slice A es.length c] 24))).toB (by simp)
    simp only [World.size_alloc] at h2
    refine ⟨eb, h1.below ?_, h2⟩
    rw [hW3, hW2]
    go_grown
  have hpre3 : lkPre W2.heap.size W3.heap.size (w.heap.size + 1 + 1) n (.slice A es.length c) es eb W3 := ⟨hx3, heb, by omega, by omega, by omega, by omega, Nat.le_refl _⟩
  have HS2 := Lib.hid hs2
  have HS3 := Lib.hid hs3
  have HF3 := Lib.hid hf3
  have HP3 := Lib.hid hpre3
  clear hW2 hW3 hs2 hb2 hf2 hb3 hs3 hf3 hx3 heb hebl hpre3 hmk
  refine wpIn_rangeFunc_iterA (gf := 175) (lb := #[.pointer (some ⟨W2.heap.size, 0, none⟩)]) (by rw [HS2.out]; rfl) (enters_of Tryz.func175 (by kernel_rfl) rfl)
    (lk1_iter W2.heap.size W3.heap.size (w.heap.size + 1 + 1) n eb (.slice A es.length c) es) (fun _ => rfl) ?hR ?hKt ?hKp (fun pre W => FuI w n q A es.length c (lpE pre) W ∧ W3.heap.size ≤ W.heap.size) (fun _ _ _ => False) ?hI (fun _ _ _ _ _ h _ => h) ?hIR (fun _ _ _ _ h _ => h) ?hpre ?h0 ?hassign ?hdone ?hstop
  case hR => intro A' C h hs; exact ⟨h.block _ (by omega), h.block _ (by omega)⟩
  case hKt => intro A' B C h k; exact ⟨Nat.le_trans h.1 k.1, fun x hx hz => (k.2 x hx hz).trans (h.2 x hx hz)⟩
  case hKp => intro W r o hl; exact ⟨by simp [World.putObj], fun k hk _ => World.putObj_heap_other (by omega)⟩
  case hI =>
    rintro pre W r o ⟨h, hs⟩ hl
    exact ⟨h.put hl (by have := HS3.out; omega) o, by simpa [World.putObj] using hs⟩
  case hIR => rintro pre A' C ⟨h, hs⟩ hr; exact ⟨h.bel hr, Nat.le_trans hs hr.size⟩
  case hpre => intro r; exact HP3.out.below ((below_alloc W3 _).alloc (by simp) _)
  case h0 =>
    intro r
    exact ⟨(HF3.out.bel ((below_alloc W3 (.deferred (some []))).alloc (by simp) (.loop r))).congr (fun _ _ => rfl), by simp; omega⟩
  case hstop => rintro c pre W _ h _; exact h.elim
  case hdone =>
    rintro xs W rfl ⟨⟨h1, h2, h3, h4, ⟨zs, h5, h6⟩, h7⟩, hsz⟩ hD
    have k0 : W.cell? ⟨w.heap.size, 0, none⟩ = some (.int .i64 (n : Int)) := h1.cell 0
    have k3 : W.cell? ⟨w.heap.size + 1 + 1 + 1, 0, none⟩ = some (.slice (some ⟨w.heap.size + 1 + 1, 0, none⟩) q q) := h3.cell 0
    have HMk := Lib.hid (make_any n (.slice (some ⟨w.heap.size + 1 + 1, 0, none⟩) q q) zs W (OI.ri h5) (by omega) h6.1 (fun j => by
      have hb := fun i j => pre_bd (es := es) (pre := nonL es) (rest := []) (fun t ht => by have := HE.out.mult t ht; omega) (by simp) i j
      have hm := HM.out
      by_cases hj : j < n * n
      · have hn0 : 0 < n := by rcases Nat.eq_zero_or_pos n with h | h; (· subst h; simp at hj); (· exact h)
        have e : j = (j / n) * n + j % n := by rw [Nat.mul_comm]; exact (Nat.div_add_mod j n).symm
        rw [e, h6.2 _ _ (Nat.div_lt_of_lt_mul hj) (Nat.mod_lt _ hn0)]
        have := hb (j / n) (j % n)
        omega
      · rw [List.getD_eq_getElem?_getD, List.getElem?_eq_none (by rw [h6.1]; omega)]; simp) (HT.out.below h7))
    have H2 := Lib.hid h2
    have H6 := Lib.hid h6
    have H7 := Lib.hid h7
    have HD := Lib.hid hD
    have HSz := Lib.hid hsz
    clear h1 h2 h3 h4 h5 h6 h7 hD hsz
    gi_wp2_with fail
    refine ⟨trivial, (callsIn_wide.2 HMk.out).mono ?_⟩
    rintro e w2 ⟨u, rfl, ⟨A9, cap9, rfl, hr9, hl9⟩, hb2⟩
    have e2 := H2.out.bel hb2
    have y0 := e2.cell 0
    have y1 := e2.cell 1
    have y2 := e2.cell 2
    have z0 := e2.frozen 0
    have z1 := e2.frozen 1
    have z2 := e2.frozen 2
    have hd2 := (hb2.block _ (lt_of_block HD.out)).trans HD.out
    have HD2 := Lib.hid hd2
    have HE2 := Lib.hid e2
    have HR9 := Lib.hid hr9
    have HL9 := Lib.hid hl9
    have HB2 := Lib.hid (H7.out.trans (hb2.mono H7.out.size))
    clear e2 hr9 hb2 hl9 hd2 k0 k3
    gi_wp2
    have hd8 : (((w2.setCell ⟨w.heap.size + 1, 0, none⟩ (.int .i64 (n : Int))).setCell ⟨w.heap.size + 1, 1, none⟩ (.int .i64 (n : Int))).setCell ⟨w.heap.size + 1, 2, none⟩ (.slice A9 zs.length cap9)).heap[W3.heap.size]? = some (.deferred (some [])) := by
      have := HS3.out
      rw [heap_setCell_other _ _ _ _ (by show W3.heap.size ≠ w.heap.size + 1; omega), heap_setCell_other _ _ _ _ (by show W3.heap.size ≠ w.heap.size + 1; omega), heap_setCell_other _ _ _ _ (by show W3.heap.size ≠ w.heap.size + 1; omega)]
      exact HD2.out
    have hbl8 := ((HE2.out.set 0 (.int .i64 (n : Int))).set 1 (.int .i64 (n : Int))).set 2 (.slice A9 zs.length cap9)
    have hr8 := (((HR9.out.box3 HE2.out (.int .i64 (n : Int)) 0).box3 (HE2.out.set 0 _) (.int .i64 (n : Int)) 1).box3 ((HE2.out.set 0 _).set 1 _) (.slice A9 zs.length cap9) 2).putz hd8 rfl
    have hb8 := ((HB2.out.setCell (p := ⟨w.heap.size + 1, 0, none⟩) (by simp) (.int .i64 (n : Int))).setCell (p := ⟨w.heap.size + 1, 1, none⟩) (by simp) (.int .i64 (n : Int))).setCell (p := ⟨w.heap.size + 1, 2, none⟩) (by simp) (.slice A9 zs.length cap9)
    refine ⟨by simp, .inl ⟨_, _, rfl, run_takeDeferred hd8, ?_⟩⟩
    refine ⟨_, results_row_tmpN rfl _ _ (w.heap.size + 1) 84 #[.int .i64 (n : Int), .int .i64 (n : Int), .slice A9 zs.length cap9] (0, 0) _ rfl ((World.putObj_heap_other (by have := HS3.out; omega)).trans hbl8) Tryz.underlying84 rfl zmat_size, _, zs, rfl, ⟨A9, cap9, rfl, hr8 _, HL9.out⟩, H6.out, below_putLoop hb8 (by have := HS3.out; omega) _⟩
  case hassign =>
    rintro l pre x W r ⟨hi, hsz⟩ ⟨rest, hrest⟩ hl hd
    have hmem := nonL_mem (es := es) (t := x) (by rw [← hrest]; simp)
    have hlo := HE.out.lo x hmem.1
    have hmu := HE.out.mult x hmem.1
    obtain ⟨xa, xb, xm⟩ := x
    dsimp only at hmem hlo hmu
    obtain ⟨a, rfl⟩ := Int.eq_ofNat_of_zero_le hlo.1
    obtain ⟨b, rfl⟩ := Int.eq_ofNat_of_zero_le (show 0 ≤ xb by omega)
    have hab : a < n ∧ b < n := by omega
    have hbd : ∀ i j, (lpE pre i j).natAbs ≤ 50 := fun i j => by
      have := pre_bd (es := es) (pre := pre) (rest := ((a : Int), (b : Int), xm) :: rest) (fun t ht => by have := HE.out.mult t ht; omega) hrest i j
      have := HM.out
      omega
    obtain ⟨W4, hW4⟩ : ∃ W4, W4 = W.alloc (.cells #[.int .i64 (a : Int), .int .i64 (b : Int), .int .i64 xm] 54) := ⟨_, rfl⟩
    have hb4 : Below W.heap.size W W4 := by rw [hW4]; exact below_alloc W _
    have hx4 : BL W4 W.heap.size 54 [.int .i64 (a : Int), .int .i64 (b : Int), .int .i64 xm] := by rw [hW4]; exact BL.new' W _ _
    have HI4 := Lib.hid (hi.bel hb4)
    have HL4 := Lib.hid ((hb4.block _ (lt_of_block hl)).trans hl)
    have HD4 := Lib.hid ((hb4.block _ (lt_of_block hd)).trans hd)
    have HX4 := Lib.hid hx4
    have HB4 := Lib.hid hb4
    have HW4 := Lib.hid hW4
    have HLb := Lib.hid (lt_of_block hl)
    have HSz := Lib.hid hsz
    have HBd := Lib.hid hbd
    have HAB := Lib.hid hab
    have HMu := Lib.hid hmu
    have HRest := Lib.hid hrest
    clear hi hsz hrest hl hd hmem hlo hmu hbd hab hb4 hx4 hW4
    unfold triV
    gi_wp2
    rw [← HW4.out]
    refine ⟨⟨HB4.out.block _ (by have := HLb.out; omega), HB4.out.block _ HLb.out⟩, ⟨HB4.out.size, fun k hk _ => HB4.out.block k (by have := HSz.out; omega)⟩, fun r' => ?_⟩
    obtain ⟨W5, hW5⟩ : ∃ W5, W5 = W4.putObj (W3.heap.size + 1) (.loop r') := ⟨_, rfl⟩
    have hi5 : FuI w n q A es.length c (lpE pre) W5 := by rw [hW5]; exact HI4.out.put HL4.out (by have := HS3.out; omega) _
    have hx5 : BL W5 W.heap.size 54 [.int .i64 (a : Int), .int .i64 (b : Int), .int .i64 xm] := by rw [hW5]; exact HX4.out.putLoop HL4.out _
    have hd5 : W5.heap[W3.heap.size]? = some (.deferred (some [])) := by rw [hW5]; exact (World.putObj_heap_other (by omega)).trans HD4.out
    have hl5 : W5.heap[W3.heap.size + 1]? = some (.loop r') := by rw [hW5]; exact World.putObj_heap_same (lt_of_block HL4.out)
    have hz5 : W5.heap.size = W4.heap.size := by rw [hW5]; simp [World.putObj]
    rw [← hW5]
    have f0 : W5.cell? ⟨w.heap.size + 1 + 1 + 1 + 1, 0, none⟩ = some (.func (.func 153) #[] #[.pointer (some ⟨w.heap.size + 1 + 1 + 1, 0, none⟩), .pointer (some ⟨w.heap.size, 0, none⟩)]) := hi5.2.2.2.1.cell 0
    have p0 : W5.cell? ⟨W.heap.size, 0, none⟩ = some (.int .i64 (a : Int)) := hx5.cell 0
    have p1 : W5.cell? ⟨W.heap.size, 1, none⟩ = some (.int .i64 (b : Int)) := hx5.cell 1
    have p2 : W5.cell? ⟨W.heap.size, 2, none⟩ = some (.int .i64 xm) := hx5.cell 2
    have HC1 := Lib.hid (fu_step hi5 HQ.out (by omega) (fun i j _ _ => by have := HBd.out i j; omega) HAB.out.1 HAB.out.1 xm (by have := HMu.out; omega))
    have HX5 := Lib.hid hx5
    have HD5 := Lib.hid hd5
    have HL5 := Lib.hid hl5
    have hneg : wrap64 (-xm) = -xm := by have := HMu.out; rw [IntWalk.wrap64_in] <;> omega
    clear hi5 hx5 hd5 hl5 hW5
    gi_wp2_with fail
    refine ⟨trivial, (CallsIn.inRound l (callsIn_wide.2 HC1.out)).mono ?_⟩
    rintro e w6 ⟨⟨v6, rfl⟩, hi6, hs6, hk6⟩
    clear p0 p1 p2 f0 HC1
    have HX6 : Hid (BL w6 W.heap.size 54 [.int .i64 (a : Int), .int .i64 (b : Int), .int .i64 xm]) := (hk6 _ (by have := HSz.out; have := HS3.out; omega)).trans HX5.out
    have HKk6 : Hid (∀ b, b ≠ w.heap.size + 1 + 1 → w6.heap[b]? = W5.heap[b]?) := hk6
    have HSs6 : Hid (w6.heap.size = W5.heap.size) := hs6
    have f0 : w6.cell? ⟨w.heap.size + 1 + 1 + 1 + 1, 0, none⟩ = some (.func (.func 153) #[] #[.pointer (some ⟨w.heap.size + 1 + 1 + 1, 0, none⟩), .pointer (some ⟨w.heap.size, 0, none⟩)]) := hi6.2.2.2.1.cell 0
    have p0 : w6.cell? ⟨W.heap.size, 0, none⟩ = some (.int .i64 (a : Int)) := HX6.out.cell 0
    have p1 : w6.cell? ⟨W.heap.size, 1, none⟩ = some (.int .i64 (b : Int)) := HX6.out.cell 1
    have p2 : w6.cell? ⟨W.heap.size, 2, none⟩ = some (.int .i64 xm) := HX6.out.cell 2
    have HC2 := Lib.hid (fu_step hi6 HQ.out (by omega) (fun i j _ _ => by have := HBd.out i j; have := HMu.out; (repeat' split) <;> omega) HAB.out.2 HAB.out.2 xm (by have := HMu.out; omega))
    clear hi6 hs6 hk6
    gi_wp2_with fail
    refine ⟨trivial, (CallsIn.inRound l (callsIn_wide.2 HC2.out)).mono ?_⟩
    rintro e w7 ⟨⟨v7, rfl⟩, hi7, hs7, hk7⟩
    clear p0 p1 p2 f0 HC2
    have HX7 : Hid (BL w7 W.heap.size 54 [.int .i64 (a : Int), .int .i64 (b : Int), .int .i64 xm]) := (hk7 _ (by have := HSz.out; have := HS3.out; omega)).trans HX6.out
    have HKk7 : Hid (∀ b, b ≠ w.heap.size + 1 + 1 → w7.heap[b]? = W5.heap[b]?) := fun b hb => (hk7 b hb).trans (HKk6.out b hb)
    have HSs7 : Hid (w7.heap.size = W5.heap.size) := hs7.trans HSs6.out
    have f0 : w7.cell? ⟨w.heap.size + 1 + 1 + 1 + 1, 0, none⟩ = some (.func (.func 153) #[] #[.pointer (some ⟨w.heap.size + 1 + 1 + 1, 0, none⟩), .pointer (some ⟨w.heap.size, 0, none⟩)]) := hi7.2.2.2.1.cell 0
    have p0 : w7.cell? ⟨W.heap.size, 0, none⟩ = some (.int .i64 (a : Int)) := HX7.out.cell 0
    have p1 : w7.cell? ⟨W.heap.size, 1, none⟩ = some (.int .i64 (b : Int)) := HX7.out.cell 1
    have p2 : w7.cell? ⟨W.heap.size, 2, none⟩ = some (.int .i64 xm) := HX7.out.cell 2
    have HC3 := Lib.hid (fu_step hi7 HQ.out (by omega) (fun i j _ _ => by have := HBd.out i j; have := HMu.out; (repeat' split) <;> omega) HAB.out.1 HAB.out.2 (-xm) (by have := HMu.out; omega))
    clear hi7 hs7 hk7
    gi_wp2_with fail
    refine ⟨trivial, (CallsIn.inRound l (callsIn_wide.2 HC3.out)).mono ?_⟩
    rintro e w8 ⟨⟨v8, rfl⟩, hi8, hs8, hk8⟩
    clear p0 p1 p2 f0 HC3
    have HX8 : Hid (BL w8 W.heap.size 54 [.int .i64 (a : Int), .int .i64 (b : Int), .int .i64 xm]) := (hk8 _ (by have := HSz.out; have := HS3.out; omega)).trans HX7.out
    have HKk8 : Hid (∀ b, b ≠ w.heap.size + 1 + 1 → w8.heap[b]? = W5.heap[b]?) := fun b hb => (hk8 b hb).trans (HKk7.out b hb)
    have HSs8 : Hid (w8.heap.size = W5.heap.size) := hs8.trans HSs7.out
    have f0 : w8.cell? ⟨w.heap.size + 1 + 1 + 1 + 1, 0, none⟩ = some (.func (.func 153) #[] #[.pointer (some ⟨w.heap.size + 1 + 1 + 1, 0, none⟩), .pointer (some ⟨w.heap.size, 0, none⟩)]) := hi8.2.2.2.1.cell 0
    have p0 : w8.cell? ⟨W.heap.size, 0, none⟩ = some (.int .i64 (a : Int)) := HX8.out.cell 0
    have p1 : w8.cell? ⟨W.heap.size, 1, none⟩ = some (.int .i64 (b : Int)) := HX8.out.cell 1
    have p2 : w8.cell? ⟨W.heap.size, 2, none⟩ = some (.int .i64 xm) := HX8.out.cell 2
    have HC4 := Lib.hid (fu_step hi8 HQ.out (by omega) (fun i j _ _ => by have := HBd.out i j; have := HMu.out; (repeat' split) <;> omega) HAB.out.2 HAB.out.1 (-xm) (by have := HMu.out; omega))
    clear hi8 hs8 hk8
    gi_wp2_with fail
    refine ⟨trivial, (CallsIn.inRound l (callsIn_wide.2 HC4.out)).mono ?_⟩
    rintro e w9 ⟨⟨v9, rfl⟩, hi9, hs9, hk9⟩
    clear p0 p1 p2 f0 HC4
    have HX9 : Hid (BL w9 W.heap.size 54 [.int .i64 (a : Int), .int .i64 (b : Int), .int .i64 xm]) := (hk9 _ (by have := HSz.out; have := HS3.out; omega)).trans HX8.out
    have HKk9 : Hid (∀ b, b ≠ w.heap.size + 1 + 1 → w9.heap[b]? = W5.heap[b]?) := fun b hb => (hk9 b hb).trans (HKk8.out b hb)
    have HSs9 : Hid (w9.heap.size = W5.heap.size) := hs9.trans HSs8.out
    have HI9 := Lib.hid (hi9.congr (f' := lpE (pre ++ [((a : Int), (b : Int), xm)])) fun i j => by rw [lpE_snoc]; exact cE_four _ i j)
    clear hi9 hs9 hk9
    gi_wp2
    have hk9 := HKk9.out
    have hs9 := HSs9.out
    have hs3 := HS3.out
    exact ⟨⟨hk9 _ (by omega), hk9 _ (by omega)⟩, ⟨by omega, fun k _ hz => hk9 k hz⟩, HI9.out, by have := HSz.out; have := HB4.out.size; omega⟩
end Go.Proofs.YtjfggodnfoknfaaGreatDoor

namespace Go.Proofs.YtjfggodnfoknfaaGreatDoor
open Go.RowKit
theorem RV.zbox {W : World} {v : Value} {zs : List Int} {b : Nat} (h : RV W v (zs.map zV)) (hB : BL W b 84 [.int .i64 0, .int .i64 0, .slice none 0 0]) (x y : Int) (p : Option Addr) (n c : Nat) :
    RV (((W.setCell ⟨b, 0, none⟩ (.int .i64 x)).setCell ⟨b, 1, none⟩ (.int .i64 y)).setCell ⟨b, 2, none⟩ (.slice p n c)) v (zs.map zV) :=
  ((h.box3 hB (.int .i64 x) 0).box3 (hB.set 0 _) (.int .i64 y) 1).box3 ((hB.set 0 _).set 1 _) (.slice p n c) 2
theorem below_zbox {B b : Nat} {w W : World} (h : Below B w W) (hb : B ≤ b) (x y z : Value) : Below B w (((W.setCell ⟨b, 0, none⟩ x).setCell ⟨b, 1, none⟩ y).setCell ⟨b, 2, none⟩ z) :=
  ((h.setCell (p := ⟨b, 0, none⟩) hb _).setCell (p := ⟨b, 1, none⟩) hb _).setCell (p := ⟨b, 2, none⟩) hb _
theorem fullF_any (v : Value) (n : Nat) (es : List Tri) (w : World) (hg : GV w v (n : Int) es) (hE : Edges n es) (hc : gcheckE n es = 0) (hn : n ≤ 5) (hm : multS es ≤ 50) (ht : TB w) :
    Calls Tryz.prog 88 #[v] w fun e w' => ∃ u zs, e = .returned (.tuple #[u, .int .i64 0]) ∧ ZM w' u n n zs ∧ CVz n zs (lpE (nonL es)) ∧ Below w.heap.size w w' := by
  obtain ⟨A, c, rfl, -⟩ := hg.open_
  obtain ⟨W0, hW0⟩ : ∃ W0, W0 = (w.alloc (.cells #[.int .i64 (n : Int), .slice A es.length c] 24)).alloc (.cells #[.int .i64 0, .int .i64 0, .slice none 0 0] 84) := ⟨_, rfl⟩
  have hb0 : Below w.heap.size w W0 := by rw [hW0]; go_grown
  have e1 : BL W0 w.heap.size 24 [.int .i64 (n : Int), .slice A es.length c] := by rw [hW0]; exact (BL.new' w _ _).alloc _
  have e2 : BL W0 (w.heap.size + 1) 84 [.int .i64 0, .int .i64 0, .slice none 0 0] := by
    have := BL.new' (w.alloc (.cells #[.int .i64 (n : Int), .slice A es.length c] 24)) #[.int .i64 0, .int .i64 0, .slice none 0 0] 84
    rw [World.size_alloc] at this
    rw [hW0]; exact this
  have HCh := Lib.hid (gCheck_any (.agg #[.int .i64 (n : Int), .slice A es.length c]) n es W0 (hg.below hb0))
  rw [hc] at HCh
  have HFu : Hid (∀ W, Below w.heap.size w W → Calls Tryz.prog 121 #[.agg #[.int .i64 (n : Int), .slice A es.length c]] W fun e w' => ∃ u zs, e = .returned (.tuple #[u, .int .i64 0]) ∧ ZM w' u n n zs ∧ CVz n zs (lpE (nonL es)) ∧ Below W.heap.size W w') := fun W h => full_any _ n es W (hg.below h) hE hn hm (ht.below h)
  have HB0 := Lib.hid hb0
  have HE1 := Lib.hid e1
  have HE2 := Lib.hid e2
  have HW0 := Lib.hid hW0
  clear hg hE hc hm ht hb0 e1 e2 hW0
  go_enter Tryz.func88, Tryz.ntmps88
  go_wp2_with fail
  rw [← HW0.out]
  refine HCh.out.mono ?_
  rintro e w1 ⟨rfl, hb1⟩
  have b1 := HE1.out.bel hb1
  have k0 : w1.cell? ⟨w.heap.size, 0, none⟩ = some (.int .i64 (n : Int)) := b1.cell 0
  have k1 : w1.cell? ⟨w.heap.size, 1, none⟩ = some (.slice A es.length c) := b1.cell 1
  have HE3 := Lib.hid (HE2.out.bel hb1)
  have HB1 := Lib.hid (HB0.out.trans (hb1.mono HB0.out.size))
  clear b1 hb1
  go_wp2_with fail
  refine (HFu.out w1 HB1.out).mono ?_
  rintro e w2 ⟨u, zs, rfl, ⟨A9, cap9, rfl, hr9, hl9⟩, hcv, hb2⟩
  have e6 := HE3.out.bel hb2
  have y0 := e6.cell 0
  have y1 := e6.cell 1
  have y2 := e6.cell 2
  have z0 := e6.frozen 0
  have z1 := e6.frozen 1
  have z2 := e6.frozen 2
  have H6 := Lib.hid e6
  have HR9 := Lib.hid hr9
  have HL9 := Lib.hid hl9
  have HCv := Lib.hid hcv
  have HB2 := Lib.hid (HB1.out.trans (hb2.mono HB1.out.size))
  clear e6 hr9 hb2 hl9 k0 k1 hcv
  go_wp2_with fail
  refine bodyPost_ret (results_row_tmpN rfl _ _ (w.heap.size + 1) 84 #[.int .i64 (n : Int), .int .i64 (n : Int), .slice A9 zs.length cap9] (0, 0) _ rfl (((H6.out.set 0 _).set 1 _).set 2 _) Tryz.underlying84 rfl zmat_size) rfl ?_
  exact ⟨_, zs, rfl, ⟨A9, cap9, rfl, HR9.out.zbox H6.out _ _ _ _ _, HL9.out⟩, HCv.out, below_zbox HB2.out (by omega) _ _ _⟩
theorem minorF_any (v : Value) (m : Nat) (es : List Tri) (w : World) (hg : GV w v ((m + 1 : Nat) : Int) es) (hE : Edges (m + 1) es) (hc : gcheckE ((m + 1 : Nat) : Int) es = 0) (hn : m ≤ 4) (hm : multS es ≤ 50) (ht : TB w) :
    Calls Tryz.prog 54 #[v, .int .i64 0, .int .i64 0] w fun e w' => ∃ u zs, e = .returned (.tuple #[u, .int .i64 0]) ∧ ZM w' u m m (minL m zs) ∧ CVz (m + 1) zs (lpE (nonL es)) ∧ Below w.heap.size w w' := by
  obtain ⟨A, c, rfl, -⟩ := hg.open_
  have hfb : ∀ i j, ((lpE (nonL es) i j).natAbs : Int) ≤ 50 := fun i j => by
    have := lpE_bd (es := es) (fun t ht => by have := hE.mult t ht; omega) i j
    omega
  obtain ⟨n, hn1⟩ : ∃ n, n = m + 1 := ⟨_, rfl⟩
  rw [← hn1] at hg hE hc ⊢
  obtain ⟨W0, hW0⟩ : ∃ W0, W0 = (w.alloc (.cells #[.int .i64 (n : Int), .slice A es.length c] 24)).alloc (.cells #[.int .i64 0, .int .i64 0, .slice none 0 0] 84) := ⟨_, rfl⟩
  have hb0 : Below w.heap.size w W0 := by rw [hW0]; go_grown
  have e1 : BL W0 w.heap.size 24 [.int .i64 (n : Int), .slice A es.length c] := by rw [hW0]; exact (BL.new' w _ _).alloc _
  have e2 : BL W0 (w.heap.size + 1) 84 [.int .i64 0, .int .i64 0, .slice none 0 0] := by
    have := BL.new' (w.alloc (.cells #[.int .i64 (n : Int), .slice A es.length c] 24)) #[.int .i64 0, .int .i64 0, .slice none 0 0] 84
    rw [World.size_alloc] at this
    rw [hW0]; exact this
  have HFu : Hid (Calls Tryz.prog 88 #[.agg #[.int .i64 (n : Int), .slice A es.length c]] W0 fun e w' => ∃ u zs, e = .returned (.tuple #[u, .int .i64 0]) ∧ ZM w' u n n zs ∧ CVz n zs (lpE (nonL es)) ∧ Below W0.heap.size W0 w') := fullF_any _ n es W0 (hg.below hb0) hE hc (by omega) hm (ht.below hb0)
  have HMi : Hid (∀ (W : World) (zs : List Int) (A9 : Option Addr) (cap9 : Nat), RV W (.slice A9 zs.length cap9) (zs.map zV) → zs.length = n * n → CVz n zs (lpE (nonL es)) → Calls Tryz.prog 89 #[.agg #[.int .i64 (n : Int), .int .i64 (n : Int), .slice A9 zs.length cap9], .int .i64 0, .int .i64 0] W fun e w' => ∃ u, e = .returned (.tuple #[u, .int .i64 0]) ∧ ZM w' u m m (minL m zs) ∧ Below W.heap.size W w') := fun W zs A9 cap9 h1 h2 h3 => by
    subst hn1
    refine minor_any _ m zs W ⟨A9, cap9, rfl, h1, h2⟩ (by omega) (fun j => ?_)
    by_cases hj : j < (m + 1) * (m + 1)
    · have e : j = (j / (m + 1)) * (m + 1) + j % (m + 1) := by rw [Nat.mul_comm]; exact (Nat.div_add_mod j (m + 1)).symm
      rw [e, h3.2 _ _ (Nat.div_lt_of_lt_mul hj) (Nat.mod_lt _ (by omega))]
      have := hfb (j / (m + 1)) (j % (m + 1))
      omega
    · rw [List.getD_eq_getElem?_getD, List.getElem?_eq_none (by rw [h2]; omega)]; simp
  have t1 : (0 : Int) < (n : Int) := by omega
  have HB0 := Lib.hid hb0
  have HE1 := Lib.hid e1
  have HE2 := Lib.hid e2
  have HW0 := Lib.hid hW0
  clear hg hE hc hm ht hb0 e1 e2 hW0 hfb hn1
  go_enter Tryz.func54, Tryz.ntmps54
  go_wp2_with fail
  rw [← HW0.out]
  refine HFu.out.mono ?_
  rintro e w1 ⟨u, zs, rfl, ⟨A9, cap9, rfl, hr9, hl9⟩, hcv, hb1⟩
  have ba : Below w1.heap.size w1 (w1.alloc (.cells #[.int .i64 (n : Int), .int .i64 (n : Int), .slice A9 zs.length cap9] 84)) := below_alloc w1 _
  have b1 := (HE1.out.bel hb1).bel ba
  have k0 : (w1.alloc (.cells #[.int .i64 (n : Int), .int .i64 (n : Int), .slice A9 zs.length cap9] 84)).cell? ⟨w.heap.size, 0, none⟩ = some (.int .i64 (n : Int)) := b1.cell 0
  have HMM := Lib.hid (HMi.out _ zs A9 cap9 (hr9.below ba) hl9 hcv)
  have HE3 := Lib.hid ((HE2.out.bel hb1).bel ba)
  have HCv := Lib.hid hcv
  have HB1 := Lib.hid ((HB0.out.trans (hb1.mono HB0.out.size)).trans (ba.mono (HB0.out.trans (hb1.mono HB0.out.size)).size))
  clear b1 hb1 hr9 hl9 ba hcv
  go_wp2_with fail
  refine HMM.out.mono ?_
  rintro e w2 ⟨u, rfl, ⟨A8, cap8, rfl, hr8, hl8⟩, hb2⟩
  have e6 := HE3.out.bel hb2
  have y0 := e6.cell 0
  have y1 := e6.cell 1
  have y2 := e6.cell 2
  have z0 := e6.frozen 0
  have z1 := e6.frozen 1
  have z2 := e6.frozen 2
  have H6 := Lib.hid e6
  have HR8 := Lib.hid hr8
  have HL8 := Lib.hid hl8
  have HB2 := Lib.hid (HB1.out.trans (hb2.mono HB1.out.size))
  clear e6 hr8 hb2 hl8 k0
  go_wp2_with fail
  refine bodyPost_ret (results_row_tmpN rfl _ _ (w.heap.size + 1) 84 #[.int .i64 (m : Int), .int .i64 (m : Int), .slice A8 (minL m zs).length cap8] (0, 0) _ rfl (((H6.out.set 0 _).set 1 _).set 2 _) Tryz.underlying84 rfl zmat_size) rfl ?_
  exact ⟨_, zs, rfl, ⟨A8, cap8, rfl, HR8.out.zbox H6.out _ _ _ _ _, HL8.out⟩, HCv.out, below_zbox HB2.out (by omega) _ _ _⟩
end Go.Proofs.YtjfggodnfoknfaaGreatDoor

