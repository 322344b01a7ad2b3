/- Contracts of the references' Size, small, Few.
   Contract of the reference's Between.
   What can be reached from a vertex, in rounds. No program in sight.
   Contract of the reference's Reached.
   Contracts of the references' Parts, Connected, Joined.
   Contracts of the references' Connected, Joined, Low.
   Contracts of the checker's small functions.
   Contract of the checker's loses.
   A list of lists of ints of the call's own: each row a slice of its own, and one append. -/
import Derived.Test.YteamhbohgoclgaaGreatDoorP13
import Derived.Lib.MinMax
set_option maxRecDepth 100000
set_option maxHeartbeats 16000000
namespace Go.Proofs.YteamhbohgoclgaaGreatDoor
open Go.RowKit Go.Shelf

theorem sing_le {n : Nat} {es : List Tri} (hE : Edges n es) : (singL es).length ≤ 50 * es.length := by
  rw [sing_len]
  have : ∀ l : List Tri, (∀ t ∈ l, t.2.2 ≤ 50) → (l.map fun t => t.2.2.toNat).sum ≤ 50 * l.length := by
    intro l
    induction l with
    | nil => intro _; simp
    | cons t r ih =>
      intro h
      have := ih fun x hx => h x (List.mem_cons_of_mem _ hx)
      have ht := h t (by simp)
      simp only [List.map_cons, List.sum_cons, List.length_cons]
      omega
  exact this es fun t ht => (hE.mult t ht).2
/-- What Few answers. -/
def fewB (n : Int) (es : List Tri) : Bool := if 40 < es.length then false else if gcheckE n es ≠ 0 then true else decide (n ≤ 6) && decide ((singL es).length ≤ 9)
theorem rSize_any (g : Value) (n : Nat) (es : List Tri) (w : World) (hg : GV w g n es) (hE : Edges n es) (hlen : es.length ≤ 40) :
    Calls Tryz.prog 56 #[g] w fun e w' => e = .returned (.int .i64 ((singL es).length : Nat)) ∧ Below w.heap.size w w' := by
  obtain ⟨A, c, rfl, -⟩ := hg.open_
  obtain ⟨W0, hW0⟩ : ∃ W0, W0 = w.alloc (.cells #[.int .i64 (n : Int), .slice A es.length c] 25) := ⟨_, rfl⟩
  have hb0 : Below w.heap.size w W0 := by rw [hW0]; exact below_alloc w _
  have hx0 : BL W0 w.heap.size 25 [.int .i64 (n : Int), .slice A es.length c] := by rw [hW0]; exact BL.new' w _ _
  have HEn := Hd (rEnds_any _ n es W0 (hg.below hb0) hE (by have := sing_le hE; omega))
  have c0 := hx0.cell 0
  have c1 := hx0.cell 1
  have HB0 := Hd hb0
  have HW0 := Hd hW0
  rw [hW0] at c0 c1
  clear hg hb0 hx0 hW0 hE
  go_enter Tryz.func56, Tryz.ntmps56
  go_wp2_with fail
  rw [← HW0.out]
  refine HEn.out.mono ?_
  rintro e w1 ⟨v, rfl, ho, hb1⟩
  obtain ⟨A1, c1', rfl⟩ := ho.shape
  have HB1 := Hd hb1
  clear ho hb1 c0 c1
  go_wp2
  go_ret
  exact ⟨rfl, HB0.out.trans (HB1.out.mono HB0.out.size)⟩
theorem rSmall_any (g : Value) (n : Int) (es : List Tri) (w : World) (hg : GV w g n es) :
    Calls Tryz.prog 29 #[g, .int .i64 6, .int .i64 9] w fun e w' => e = .returned (.bool (fewB n es)) ∧ Below w.heap.size w w' := by
  obtain ⟨A, c, rfl, hlc, hc, -⟩ := hg.open_
  obtain ⟨W0, hW0⟩ : ∃ W0, W0 = w.alloc (.cells #[.int .i64 n, .slice A es.length c] 25) := ⟨_, rfl⟩
  have hb0 : Below w.heap.size w W0 := by rw [hW0]; exact below_alloc w _
  have hx0 : BL W0 w.heap.size 25 [.int .i64 n, .slice A es.length c] := by rw [hW0]; exact BL.new' w _ _
  have hgc := rgCheck_any _ n es W0 (hg.below hb0)
  have c0 := hx0.cell 0
  have c1 := hx0.cell 1
  have HX0 := Hd hx0
  have HG0 := Hd (hg.below hb0)
  have HB0 := Hd hb0
  have HW0 := Hd hW0
  rw [hW0] at c0 c1
  clear hg hb0 hx0 hW0
  by_cases h1 : 40 < es.length
  · have HR : Hid (fewB n es = false) := by show _ = _; unfold fewB; rw [if_pos h1]
    go_enter Tryz.func29, Tryz.ntmps29
    go_wp2
    go_ret
    exact ⟨ret_b HR.out.symm, below_alloc w _⟩
  by_cases h2 : gcheckE n es = 0
  · rw [h2] at hgc
    have HGc := Hd hgc
    obtain ⟨m, rfl, h12, _, hE⟩ := gcheckE_zero h2
    have H2 := Hd h2
    have HFw : Hid (fewB m es = (decide ((m : Int) ≤ 6) && decide ((singL es).length ≤ 9))) := by show _ = _; unfold fewB; rw [if_neg h1, if_neg (by simpa using h2)]
    have HE := Hd hE
    have HL : Hid (es.length ≤ 40) := by show _ ≤ _; omega
    clear h2 hE hgc
    go_enter Tryz.func29, Tryz.ntmps29
    go_wp2_with fail
    rw [← HW0.out]
    refine HGc.out.mono ?_
    rintro e w1 ⟨rfl, hb1⟩
    have hx1 := HX0.out.bel hb1
    have d0 := hx1.cell 0
    have d1 := hx1.cell 1
    have HSz := Hd (rSize_any _ m es w1 (HG0.out.below hb1) HE.out HL.out)
    have HB1 := Hd (HB0.out.trans (hb1.mono HB0.out.size))
    clear hb1 hx1 c0 c1
    by_cases h6 : (m : Int) ≤ 6
    · by_cases h9 : (singL es).length ≤ 9
      · have HR : Hid (fewB m es = true) := by show _ = _; rw [HFw.out]; simp [h6, h9]
        obtain ⟨l, hl⟩ : ∃ l, l = (singL es).length := ⟨_, rfl⟩
        rw [← hl] at HSz h9
        have h9' : (l : Int) ≤ 9 := by omega
        clear hl HFw h9
        go_wp2_with fail
        refine HSz.out.mono ?_
        rintro e w2 ⟨rfl, hb2⟩
        have HB2 := Hd (HB1.out.trans (hb2.mono HB1.out.size))
        clear hb2
        go_wp2
        go_ret
        exact ⟨ret_b HR.out.symm, HB2.out⟩
      · have HR : Hid (fewB m es = false) := by show _ = _; rw [HFw.out]; simp [h9]
        obtain ⟨l, hl⟩ : ∃ l, l = (singL es).length := ⟨_, rfl⟩
        rw [← hl] at HSz h9
        have h9' : ¬ (l : Int) ≤ 9 := by omega
        clear hl HFw h9
        go_wp2_with fail
        refine HSz.out.mono ?_
        rintro e w2 ⟨rfl, hb2⟩
        have HB2 := Hd (HB1.out.trans (hb2.mono HB1.out.size))
        clear hb2
        go_wp2
        go_ret
        exact ⟨ret_b (by rw [HR.out]; exact decide_eq_false (by omega)), HB2.out⟩
    · have HR : Hid (fewB m es = false) := by show _ = _; rw [HFw.out]; simp [h6]
      clear HFw
      go_wp2
      go_ret
      exact ⟨ret_b HR.out.symm, HB1.out⟩
  · obtain ⟨r, hr⟩ : ∃ r, r = gcheckE n es := ⟨_, rfl⟩
    have HR : Hid (fewB n es = true) := by show _ = _; unfold fewB; rw [if_neg h1, if_pos h2]
    rw [← hr] at hgc h2
    have HGc := Hd hgc
    have t : (r != 0) = true := by simpa using h2
    clear hgc hr h2
    go_enter Tryz.func29, Tryz.ntmps29
    go_wp2_with fail
    rw [← HW0.out]
    refine HGc.out.mono ?_
    rintro e w1 ⟨rfl, hb1⟩
    have HB1 := Hd (HB0.out.trans (hb1.mono HB0.out.size))
    clear hb1 c0 c1
    go_wp2
    go_ret
    exact ⟨ret_b HR.out.symm, HB1.out⟩
theorem rFew8_any (g : Value) (n : Int) (es : List Tri) (w : World) (hg : GV w g n es) :
    Calls Tryz.prog 12 #[g] w fun e w' => e = .returned (.bool (fewB n es)) ∧ Below w.heap.size w w' := by
  obtain ⟨A, c, rfl, -⟩ := hg.open_
  obtain ⟨W0, hW0⟩ : ∃ W0, W0 = w.alloc (.cells #[.int .i64 n, .slice A es.length c] 25) := ⟨_, rfl⟩
  have hb0 : Below w.heap.size w W0 := by rw [hW0]; exact below_alloc w _
  have hx0 : BL W0 w.heap.size 25 [.int .i64 n, .slice A es.length c] := by rw [hW0]; exact BL.new' w _ _
  have HC := Hd (rSmall_any _ n es W0 (hg.below hb0))
  have c0 := hx0.cell 0
  have c1 := hx0.cell 1
  have HB0 := Hd hb0
  have HW0 := Hd hW0
  rw [hW0] at c0 c1
  clear hg hb0 hx0 hW0
  go_enter Tryz.func12, Tryz.ntmps12
  go_wp2_with fail
  rw [← HW0.out]
  refine HC.out.mono ?_
  rintro e w1 ⟨rfl, hb1⟩
  have HB1 := Hd (HB0.out.trans (hb1.mono HB0.out.size))
  clear hb1 c0 c1
  go_wp2
  go_ret
  exact ⟨rfl, HB1.out⟩
open Go.RowKit Go.Shelf

/-- How often two vertices are joined, loops too. -/
def btwE : List Tri → Int → Int → Int
  | [], _, _ => 0
  | t :: r, a, b => if t.1 = min a b ∧ t.2.1 = max a b then t.2.2 else btwE r a b
theorem btw_le {n : Nat} {es : List Tri} (hE : Edges n es) (a b : Int) : 0 ≤ btwE es a b ∧ btwE es a b ≤ 50 := by
  have : ∀ l : List Tri, (∀ t ∈ l, 1 ≤ t.2.2 ∧ t.2.2 ≤ 50) → 0 ≤ btwE l a b ∧ btwE l a b ≤ 50 := by
    intro l
    induction l with
    | nil => intro _; exact ⟨Int.le_refl 0, by show (0 : Int) ≤ 50; omega⟩
    | cons t r ih =>
      intro h
      rw [btwE]
      split
      · have := h t (by simp); omega
      · exact ih fun x hx => h x (List.mem_cons_of_mem _ hx)
  exact this es hE.mult
theorem btw_wgt {n : Nat} {es : List Tri} (hE : Edges n es) {u v : Nat} (huv : u ≠ v) : btwE es (u : Int) (v : Int) = wgt es u v := by
  obtain ⟨hlo, -, hord⟩ := hE
  induction es with
  | nil => rfl
  | cons t r ih =>
    have hl := hlo t (by simp)
    rw [btwE, show wgt (t :: r) u v = ew t u v + wgt r u v from rfl]
    have ih' := ih (fun x hx => hlo x (List.mem_cons_of_mem _ hx)) (List.pairwise_cons.1 hord).2
    by_cases h : t.1 = min (u : Int) v ∧ t.2.1 = max (u : Int) v
    · rw [if_pos h]
      have e : ew t u v = t.2.2 := by unfold ew; rw [if_pos ⟨by omega, by omega⟩]
      have z : wgt r u v = 0 := by
        have hz : ∀ l : List Tri, (∀ s ∈ l, LexLt t s) → (∀ s ∈ l, s.1 ≤ s.2.1) → wgt l u v = 0 := by
          intro l
          induction l with
          | nil => intro _ _; rfl
          | cons s l ihl =>
            intro h1 h2
            have a1 := h1 s (by simp)
            have a2 := h2 s (by simp)
            unfold LexLt at a1
            rw [show wgt (s :: l) u v = ew s u v + wgt l u v from rfl, ihl (fun x hx => h1 x (List.mem_cons_of_mem _ hx)) (fun x hx => h2 x (List.mem_cons_of_mem _ hx))]
            unfold ew
            rw [if_neg (by omega)]; rfl
        exact hz r (List.pairwise_cons.1 hord).1 fun s hs => (hlo s (List.mem_cons_of_mem _ hs)).2.1
      omega
    · rw [if_neg h, ih']
      have e : ew t u v = 0 := by unfold ew; rw [if_neg (by omega)]
      omega
theorem between_any (g : Value) (n : Int) (es : List Tri) (a b : Int) (w : World) (hg : GV w g n es) :
    Calls Tryz.prog 196 #[g, .int .i64 a, .int .i64 b] w fun e w' => e = .returned (.int .i64 (btwE es a b)) ∧ Below w.heap.size w w' := by
  obtain ⟨A, c, rfl, hlc, hc, hcell⟩ := hg.open_
  obtain ⟨W0, hW0⟩ : ∃ W0, W0 = w.alloc (.cells #[.int .i64 n, .slice A es.length c] 25) := ⟨_, rfl⟩
  have hb0 : Below w.heap.size w W0 := by rw [hW0]; exact below_alloc w _
  have hx0 : BL W0 w.heap.size 25 [.int .i64 n, .slice A es.length c] := by rw [hW0]; exact BL.new' w _ _
  have HX0 := Hd hx0
  have HB0 := Hd hb0
  have HW0 := Hd hW0
  have HCe := Hd hcell
  clear hg hcell hb0 hx0 hW0
  go_enter Tryz.func196, Tryz.ntmps196
  go_wp2_with fail
  rw [← HW0.out]
  go_loopw [7] (fun i wr => ∃ k : Nat, k ≤ es.length ∧ i = .int .i64 (k : Int) ∧ Hid (btwE (es.drop k) a b = btwE es a b) ∧ Hid (BL wr w.heap.size 25 [.int .i64 n, .slice A es.length c]) ∧ Hid (Below w.heap.size w wr)) (fun i _ => es.length - (intOf i).toNat)
  case atStart => exact ⟨0, Nat.zero_le _, rfl, rfl, HX0.out, HB0.out⟩
  case round =>
    obtain ⟨k, hk, rfl, hE, hx, hb⟩ := hrel
    have y1 := hx.out.cell 1
    by_cases hlt : k < es.length
    · obtain ⟨ad, ea, eb, m, rfl, hab, ht, c1, c2, c3⟩ := HCe.out k hlt
      obtain ⟨d1, d2, d3⟩ := tri_cells hb.out hab c1 c2 c3
      have hd : es.drop k = (ea, eb, m) :: es.drop (k + 1) := by
        obtain ⟨h, h'⟩ := List.getElem?_eq_some_iff.1 ht.out
        rw [← h']; exact List.drop_eq_getElem_cons h
      have HB1 := Hd (hb.out.trans ((below_alloc wr (.cells #[.int .i64 ea, .int .i64 eb, .int .i64 m] 68)).mono hb.out.size))
      have HX1 := Hd (hx.out.bel (below_alloc wr (.cells #[.int .i64 ea, .int .i64 eb, .int .i64 m] 68)))
      have hrec : btwE (es.drop k) a b = if ea = min a b ∧ eb = max a b then m else btwE (es.drop (k + 1)) a b := by rw [hd, btwE]
      have habr : ad.block < wr.heap.size := by have := hb.out.size; omega
      have hxl := hx.out.lt
      clear hd ht c1 c2 c3
      by_cases h1 : ea = min a b
      · have t1 : (ea == min a b) = true := by simpa using h1
        by_cases h2 : eb = max a b
        · have t2 : (eb == max a b) = true := by simpa using h2
          have HR : Hid (btwE es a b = m) := by show _ = _; rw [← hE.out, hrec, if_pos ⟨h1, h2⟩]
          clear h1 h2 hrec hx hb hE
          go_wp2
          go_ret
          exact ⟨ret_i HR.out.symm, HB1.out⟩
        · have t2 : (eb == max a b) = false := by simpa using h2
          have HE2 : Hid (btwE (es.drop (k + 1)) a b = btwE es a b) := by show _ = _; rw [← hE.out, hrec, if_neg (fun h => h2 h.2)]
          clear h1 h2 hrec hx hb hE
          go_wp2
          go_roundw
          case rel => exact ⟨k + 1, by omega, by go_num, HE2.out, HX1.out, HB1.out⟩
          case measure => simp [intOf]; omega
      · have t1 : (ea == min a b) = false := by simpa using h1
        have HE2 : Hid (btwE (es.drop (k + 1)) a b = btwE es a b) := by show _ = _; rw [← hE.out, hrec, if_neg (fun h => h1 h.1)]
        clear h1 hrec hx hb hE
        go_wp2
        go_roundw
        case rel => exact ⟨k + 1, by omega, by go_num, HE2.out, HX1.out, HB1.out⟩
        case measure => simp [intOf]; omega
    · have HR : Hid (btwE es a b = 0) := by show _ = _; rw [← hE.out, List.drop_of_length_le (by omega)]; rfl
      go_wp2
      go_ret
      exact ⟨ret_i HR.out.symm, hb.out⟩

def bAt (bs : List Bool) (u : Nat) : Bool := bs.getD u false
theorem bAt_set (bs : List Bool) (b u : Nat) (hb : b < bs.length) : bAt (bs.set b true) u = if u = b then true else bAt bs u := by
  unfold bAt
  rw [List.getD_eq_getElem?_getD, List.getElem?_set]
  by_cases h : b = u
  · subst h; simp [hb]
  · rw [if_neg h, if_neg (fun e => h e.symm), ← List.getD_eq_getElem?_getD]
/-- Nothing is marked that is not joined to v. -/
def Snd (n : Nat) (es : List Tri) (v : Nat) (bs : List Bool) : Prop := bAt bs v = true ∧ ∀ A : Nat → Bool, A v = true → (∀ a b, a < n → b < n → A a = true → 0 < wgt es a b → A b = true) → ∀ u, u < n → bAt bs u = true → A u = true
theorem Snd.step {n : Nat} {es : List Tri} {v : Nat} {bs : List Bool} (h : Snd n es v bs) (hl : bs.length = n) {a b : Nat} (ha : a < n) (hb : b < n) (h1 : bAt bs a = true) (h2 : a ≠ b → 0 < wgt es a b) : Snd n es v (bs.set b true) := by
  refine ⟨by rw [bAt_set _ _ _ (by omega)]; split; rfl; exact h.1, fun A hA hc u hu hbu => ?_⟩
  rw [bAt_set _ _ _ (by omega)] at hbu
  by_cases e : u = b
  · subst e
    have hAa := h.2 A hA hc a ha h1
    by_cases hab : a = u
    · subst hab; exact hAa
    · exact hc a u ha hu hAa (h2 hab)
  · rw [if_neg e] at hbu; exact h.2 A hA hc u hu hbu
/-- After r rounds. -/
def Rch (n : Nat) (es : List Tri) (v r : Nat) (bs : List Bool) : Prop := bs.length = n ∧ Snd n es v bs ∧ (Conn n (wgt es) → min n (r + 1) ≤ countN n (bAt bs))
/-- Within a round that began with bs0: the vertices ahead of a are done, and of a's neighbours those ahead of b. -/
def Mid8 (n : Nat) (es : List Tri) (v : Nat) (bs0 : List Bool) (a b : Nat) (bs : List Bool) : Prop :=
  bs.length = n ∧ Snd n es v bs ∧ (∀ u, bAt bs0 u = true → bAt bs u = true) ∧ (∀ a' b', a' < a → b' < n → bAt bs0 a' = true → 0 < wgt es a' b' → bAt bs b' = true) ∧ ∀ b', b' < b → bAt bs0 a = true → 0 < wgt es a b' → bAt bs b' = true
theorem Rch.start {n : Nat} {es : List Tri} {v : Nat} (hv : v < n) : Rch n es v 0 ((List.replicate n false).set v true) := by
  refine ⟨by simp, ⟨by rw [bAt_set _ _ _ (by simpa using hv), if_pos rfl], fun A hA _ u hu hb => ?_⟩, fun _ => ?_⟩
  · rw [bAt_set _ _ _ (by simpa using hv)] at hb
    by_cases e : u = v
    · rw [e]; exact hA
    · rw [if_neg e] at hb
      unfold bAt at hb
      rw [List.getD_eq_getElem?_getD, List.getElem?_replicate] at hb
      split at hb <;> cases hb
  · have : countN n (fun _ => false) < countN n (bAt ((List.replicate n false).set v true)) := countN_lt (fun _ _ h => by cases h) hv rfl (by rw [bAt_set _ _ _ (by simpa using hv), if_pos rfl])
    omega
theorem Rch.begin {n : Nat} {es : List Tri} {v r : Nat} {bs : List Bool} (h : Rch n es v r bs) : Mid8 n es v bs 0 0 bs := ⟨h.1, h.2.1, fun _ h => h, fun _ _ h => by omega, fun _ h => by omega⟩
theorem Mid8.skip {n : Nat} {es : List Tri} {v : Nat} {bs0 : List Bool} {a b : Nat} {bs : List Bool} (h : Mid8 n es v bs0 a b bs) (hw : bAt bs a = true → ¬ 0 < wgt es a b) : Mid8 n es v bs0 a (b + 1) bs := by
  obtain ⟨h1, h2, h3, h4, h5⟩ := h
  refine ⟨h1, h2, h3, h4, fun b' hb' ha hw' => ?_⟩
  by_cases e : b' = b
  · subst e; exact absurd hw' (hw (h3 a ha))
  · exact h5 b' (by omega) ha hw'
theorem Mid8.mark {n : Nat} {es : List Tri} {v : Nat} {bs0 : List Bool} {a b : Nat} {bs : List Bool} (h : Mid8 n es v bs0 a b bs) (ha : a < n) (hb : b < n) (h1 : bAt bs a = true) (h2 : a ≠ b → 0 < wgt es a b) : Mid8 n es v bs0 a (b + 1) (bs.set b true) := by
  obtain ⟨k1, k2, k3, k4, k5⟩ := h
  have hs : ∀ u, bAt bs u = true → bAt (bs.set b true) u = true := fun u hu => by rw [bAt_set _ _ _ (by omega)]; split; rfl; exact hu
  refine ⟨by simpa using k1, k2.step k1 ha hb h1 h2, fun u hu => hs u (k3 u hu), fun a' b' h1 h2 h3 h4 => hs b' (k4 a' b' h1 h2 h3 h4), fun b' hb' ha' hw' => ?_⟩
  by_cases e : b' = b
  · subst e; rw [bAt_set _ _ _ (by omega), if_pos rfl]
  · exact hs b' (k5 b' (by omega) ha' hw')
theorem Mid8.next {n : Nat} {es : List Tri} {v : Nat} {bs0 : List Bool} {a : Nat} {bs : List Bool} (h : Mid8 n es v bs0 a n bs) : Mid8 n es v bs0 (a + 1) 0 bs := by
  obtain ⟨k1, k2, k3, k4, k5⟩ := h
  refine ⟨k1, k2, k3, fun a' b' h1 h2 h3 h4 => ?_, fun _ h => by omega⟩
  by_cases e : a' = a
  · subst e; exact k5 b' h2 h3 h4
  · exact k4 a' b' (by omega) h2 h3 h4
theorem Mid8.end_ {n : Nat} {es : List Tri} {v r : Nat} {bs0 bs : List Bool} (h0 : Rch n es v r bs0) (h : Mid8 n es v bs0 n 0 bs) (hv : v < n) : Rch n es v (r + 1) bs := by
  obtain ⟨k1, k2, k3, k4, -⟩ := h
  refine ⟨k1, k2, fun hc => ?_⟩
  have c0 := h0.2.2 hc
  have cm := countN_mono (n := n) (p := bAt bs0) (p' := bAt bs) fun u _ hu => k3 u hu
  by_cases hall : ∃ x, x < n ∧ bAt bs0 x = false
  · obtain ⟨a, b, ha, hb, hA, hB, hw⟩ := hc (bAt bs0) ⟨v, hv, h0.2.1.1⟩ hall
    have := countN_lt (n := n) (p := bAt bs0) (p' := bAt bs) (fun u _ hu => k3 u hu) hb hB (k4 a b ha hb hA hw)
    omega
  · have : n ≤ countN n (bAt bs0) := by
      have hA : ∀ x, x < n → bAt bs0 x = true := fun x hx => by
        cases e : bAt bs0 x
        · exact absurd ⟨x, hx, e⟩ hall
        · rfl
      have : countN n (fun _ => true) ≤ countN n (bAt bs0) := countN_mono fun u hu _ => hA u hu
      have e : ∀ m, countN m (fun _ => true) = m := fun m => by induction m with
        | zero => rfl
        | succ m ih => simp [countN, ih]
      rw [e] at this; exact this
    omega
theorem Rch.all {n : Nat} {es : List Tri} {v : Nat} {bs : List Bool} (h : Rch n es v n bs) (hc : Conn n (wgt es)) : ∀ u, u < n → bAt bs u = true :=
  countN_all (by have := h.2.2 hc; omega)
/-- What is reached from 0 is all just when the graph is connected. -/
theorem rch_conn {n : Nat} {es : List Tri} {bs : List Bool} (h : Rch n es 0 n bs) : (∀ u, u < n → bAt bs u = true) ↔ Conn n (wgt es) := by
  refine ⟨fun hall A h1 h2 => ?_, fun hc => h.all hc⟩
  have key : ∀ B : Nat → Bool, B 0 = true → (∃ x, x < n ∧ B x = false) → ∃ a b, a < n ∧ b < n ∧ B a = true ∧ B b = false ∧ 0 < wgt es a b := by
    intro B hB ⟨x, hx, hxB⟩
    by_cases hcl : ∀ a b, a < n → b < n → B a = true → 0 < wgt es a b → B b = true
    · have := h.2.1.2 B hB hcl x hx (hall x hx)
      rw [hxB] at this; cases this
    · simp only [Classical.not_forall] at hcl
      obtain ⟨a, b, ha, hb, hA, hw, hbB⟩ := hcl
      exact ⟨a, b, ha, hb, hA, by simpa using hbB, hw⟩
  cases hA : A 0
  · obtain ⟨a, b, ha, hb, e1, e2, hw⟩ := key (fun u => !A u) (by simp [hA]) (by obtain ⟨x, hx, hxA⟩ := h1; exact ⟨x, hx, by simp [hxA]⟩)
    exact ⟨b, a, hb, ha, by simpa using e2, by simpa using e1, by rw [wgt_sym]; exact hw⟩
  · exact key A hA h2
open Go.RowKit Go.Shelf

theorem bl_bool {w : World} {b : Nat} {bs : List Bool} (h : BL w b 4 (bs.map .bool)) {a : Nat} (ha : a < bs.length) : w.cell? ⟨b, a, none⟩ = some (.bool (bAt bs a)) := by
  rw [h.cell a, List.getElem?_map, List.getElem?_eq_getElem ha]
  unfold bAt
  rw [List.getD_eq_getElem?_getD, List.getElem?_eq_getElem ha]; rfl
theorem bl_boolset {w : World} {b : Nat} {bs : List Bool} (h : BL w b 4 (bs.map .bool)) (a : Nat) (x : Bool) : BL (w.setCell ⟨b, a, none⟩ (.bool x)) b 4 ((bs.set a x).map .bool) := by
  have := h.set a (.bool x)
  rwa [← List.map_set] at this
theorem made_list (n : Nat) : (madeCells #[Value.bool false] n).toList = (List.replicate n false).map .bool := by
  refine List.ext_getElem (by simp [size_madeCells]) fun k h1 h2 => ?_
  simp [madeCells, Nat.mod_one]
theorem made_bool (w : World) (n : Nat) : BL (w.alloc (.cells (madeCells #[Value.bool false] n) 4)) w.heap.size 4 ((List.replicate n false).map .bool) := by
  have := BL.new' w (madeCells #[Value.bool false] n) 4
  rwa [made_list] at this
theorem reached_any (g : Value) (n v : Nat) (es : List Tri) (w : World) (hg : GV w g n es) (hE : Edges n es) (hn : n ≤ 12) (hv : v < n) :
    Calls Tryz.prog 143 #[g, .int .i64 (v : Int)] w fun e w' => ∃ bs, e = .returned (.slice (some ⟨w.heap.size + 1, 0, none⟩) n n) ∧ BL w' (w.heap.size + 1) 4 (bs.map .bool) ∧ Rch n es v n bs ∧ Below w.heap.size w w' := by
  obtain ⟨A, c, rfl, hlc, hc, hcell⟩ := hg.open_
  have hmk := run_make_row' (P := Tryz.prog) 206 4 (.bool false) 1 Tryz.underlying206 bool_info rfl .i64 .i64 n (by omega) (by omega)
  obtain ⟨W0, hW0⟩ : ∃ W0, W0 = w.alloc (.cells #[.int .i64 (n : Int), .slice A es.length c] 25) := ⟨_, rfl⟩
  have hb0 : Below w.heap.size w W0 := by rw [hW0]; exact below_alloc w _
  have hz0 : W0.heap.size = w.heap.size + 1 := by rw [hW0]; simp
  have hx0 : BL W0 w.heap.size 25 [.int .i64 (n : Int), .slice A es.length c] := by rw [hW0]; exact BL.new' w _ _
  obtain ⟨W1, hW1⟩ : ∃ W1, W1 = W0.alloc (.cells (madeCells #[Value.bool false] n) 4) := ⟨_, rfl⟩
  have hb1 : Below W0.heap.size W0 W1 := by rw [hW1]; exact below_alloc W0 _
  have hm1 : BL W1 (w.heap.size + 1) 4 ((List.replicate n false).map .bool) := by rw [hW1, ← hz0]; exact made_bool W0 n
  obtain ⟨W2, hW2⟩ : ∃ W2, W2 = W0.alloc (.cells ((madeCells #[Value.bool false] n).setIfInBounds v (.bool true)) 4) := ⟨_, rfl⟩
  have hm2 : BL W2 (w.heap.size + 1) 4 (((List.replicate n false).set v true).map .bool) := by
    have h := BL.new' W0 ((madeCells #[Value.bool false] n).setIfInBounds v (.bool true)) 4
    rw [Array.toList_setIfInBounds, made_list, ← List.map_set] at h
    rw [hW2, ← hz0]; exact h
  have hx2 : BL W2 w.heap.size 25 [.int .i64 (n : Int), .slice A es.length c] := by rw [hW2]; exact hx0.alloc _
  have hbb : Below w.heap.size w W2 := by rw [hW2]; exact hb0.alloc (by omega) _
  have c0 := hx0.cell 0
  have e0 := bl_bool hm1 (a := v) (by simpa using hv)
  have e1 := hm1.frozen v
  rw [hW0] at c0
  rw [hW1, hW0] at e0 e1
  have HG := Hd hg
  have HE := Hd hE
  have HW0 := Hd hW0
  have HW2 := Hd hW2
  have HM2 := Hd hm2
  have HX2 := Hd hx2
  have HB2 := Hd hbb
  have hv1 : (v : Int) < n := by omega
  clear hg hE hcell hb0 hz0 hx0 hb1 hm1 hm2 hx2 hbb hW0 hW1 hW2
  go_enter Tryz.func143, Tryz.ntmps143
  go_wp2_with fail
  rw [← HW0.out, ← HW2.out]
  clear c0 e0 e1 hmk
  go_loopw [6] (fun i wr => ∃ (r : Nat) (bs : List Bool), r ≤ n ∧ i = .int .i64 (r : Int) ∧ Hid (Rch n es v r bs) ∧ Hid (BL wr (w.heap.size + 1) 4 (bs.map .bool)) ∧ Hid (BL wr w.heap.size 25 [.int .i64 (n : Int), .slice A es.length c]) ∧ Hid (Below w.heap.size w wr)) (fun i _ => n - (intOf i).toNat)
  case atStart => exact ⟨0, _, Nat.zero_le _, rfl, Rch.start hv, HM2.out, HX2.out, HB2.out⟩
  case round =>
    obtain ⟨r, bs0, hr, rfl, hR, hm, hx, hb⟩ := hrel
    have y0 := hx.out.cell 0
    by_cases hrn : r < n
    · have HR0 := hR
      go_wp2_with fail
      go_loopw [7] (fun i wr => ∃ (a : Nat) (bs : List Bool), a ≤ n ∧ i = .int .i64 (a : Int) ∧ Hid (Mid8 n es v bs0 a 0 bs) ∧ Hid (BL wr (w.heap.size + 1) 4 (bs.map .bool)) ∧ Hid (BL wr w.heap.size 25 [.int .i64 (n : Int), .slice A es.length c]) ∧ Hid (Below w.heap.size w wr)) (fun i _ => n - (intOf i).toNat)
      case atStart => exact ⟨0, _, Nat.zero_le _, rfl, hR.out.begin, hm.out, hx.out, hb.out⟩
      case round =>
        clear hm hx hb y0
        obtain ⟨a, bs1, ha, rfl, hA, hm, hx, hb⟩ := hrel
        have y0 := hx.out.cell 0
        by_cases han : a < n
        · have han1 : (a : Int) < n := by omega
          go_wp2_with fail
          go_loopw [8] (fun i wr => ∃ (b : Nat) (bs : List Bool), b ≤ n ∧ i = .int .i64 (b : Int) ∧ Hid (Mid8 n es v bs0 a b bs) ∧ Hid (BL wr (w.heap.size + 1) 4 (bs.map .bool)) ∧ Hid (BL wr w.heap.size 25 [.int .i64 (n : Int), .slice A es.length c]) ∧ Hid (Below w.heap.size w wr)) (fun i _ => n - (intOf i).toNat)
          case atStart => exact ⟨0, _, Nat.zero_le _, rfl, hA.out, hm.out, hx.out, hb.out⟩
          case round =>
            clear hm hx hb y0 hA
            obtain ⟨b, bs, hbn, rfl, hA, hm, hx, hb⟩ := hrel
            have y0 := hx.out.cell 0
            have y1 := hx.out.cell 1
            by_cases hbl : b < n
            · have hbl1 : (b : Int) < n := by omega
              have hlen := hA.out.1
              have z0 := bl_bool hm.out (a := a) (by omega)
              cases hba : bAt bs a
              · rw [hba] at z0
                have HA2 := Hd (hA.out.skip (fun h => by rw [hba] at h; cases h))
                clear hlen hba
                go_wp2
                go_roundw
                case rel => exact ⟨b + 1, bs, by omega, by go_num, HA2.out, hm.out, hx.out, hb.out⟩
                case measure => simp [intOf]; omega
              · rw [hba] at z0
                have HBt := Hd (between_any _ n es a b wr (HG.out.below hb.out))
                have hwg : a ≠ b → btwE es (a : Int) (b : Int) = wgt es a b := fun h => btw_wgt HE.out h
                have hbz := btw_le HE.out (a : Int) (b : Int)
                obtain ⟨t, htt⟩ : ∃ t, t = btwE es (a : Int) (b : Int) := ⟨_, rfl⟩
                rw [← htt] at HBt hwg hbz
                by_cases ht : 0 < t
                · have HA2 := Hd (hA.out.mark han hbl hba (fun h => by rw [← hwg h]; exact ht))
                  go_wp2_with fail
                  refine HBt.out.mono ?_
                  rintro e w1 ⟨rfl, hb1⟩
                  have hm1 := hm.out.bel hb1
                  have f0 := bl_bool hm1 (a := b) (by omega)
                  have f1 := hm1.frozen b
                  have HM1 := Hd (bl_boolset hm1 b true)
                  have HX1 := Hd ((hx.out.bel hb1).set_other (a := ⟨w.heap.size + 1, b, none⟩) (by simp) (.bool true))
                  have HB1 := Hd ((hb.out.trans (hb1.mono hb.out.size)).setCell (p := ⟨w.heap.size + 1, b, none⟩) (by simp) (.bool true))
                  clear hb1 hm1 hlen hba hwg htt hbz y0 y1 z0
                  go_wp2
                  go_roundw
                  case rel => exact ⟨b + 1, _, by omega, by go_num, HA2.out, HM1.out, HX1.out, HB1.out⟩
                  case measure => simp [intOf]; omega
                · have HA2 := Hd (hA.out.skip (fun _ h => by
                    by_cases e : a = b
                    · subst e; rw [wgt_self] at h; omega
                    · rw [← hwg e] at h; exact ht h))
                  go_wp2_with fail
                  refine HBt.out.mono ?_
                  rintro e w1 ⟨rfl, hb1⟩
                  have HM1 := Hd (hm.out.bel hb1)
                  have HX1 := Hd (hx.out.bel hb1)
                  have HB1 := Hd (hb.out.trans (hb1.mono hb.out.size))
                  clear hb1 hlen hba hwg htt hbz y0 y1 z0
                  go_wp2
                  go_roundw
                  case rel => exact ⟨b + 1, _, by omega, by go_num, HA2.out, HM1.out, HX1.out, HB1.out⟩
                  case measure => simp [intOf]; omega
            · obtain rfl : b = n := by omega
              go_wp2
              go_roundw
              case rel => exact ⟨a + 1, bs, by omega, by go_num, hA.out.next, hm.out, hx.out, hb.out⟩
              case measure => simp [intOf]; omega
        · obtain rfl : a = n := by omega
          go_wp2
          go_roundw
          case rel => exact ⟨r + 1, bs1, by omega, by go_num, Mid8.end_ HR0.out hA.out hv, hm.out, hx.out, hb.out⟩
          case measure => simp [intOf]; omega
    · obtain rfl : r = n := by omega
      go_wp2
      go_ret
      exact ⟨bs0, rfl, hm.out, hR.out, hb.out⟩
open Go.RowKit Go.Shelf

/-- What is known when the vertices ahead of v have been looked at. -/
def PtI (n : Nat) (es : List Tri) (v : Nat) (k : Nat) (sn : List Bool) : Prop :=
  sn.length = n ∧ k ≤ v ∧ ((v = 0 ∧ k = 0 ∧ ∀ u, bAt sn u = false) ∨ (1 ≤ v ∧ ∃ bs0, Rch n es 0 n bs0 ∧ ((k = 1 ∧ (∀ u, u < n → bAt sn u = bAt bs0 u) ∧ ∀ u, u < v → bAt bs0 u = true) ∨ (2 ≤ k ∧ ∃ u, u < n ∧ bAt bs0 u = false))))
theorem PtI.seen {n : Nat} {es : List Tri} {v k : Nat} {sn : List Bool} (h : PtI n es v k sn) (hv : v < n) (hs : bAt sn v = true) : PtI n es (v + 1) k sn := by
  obtain ⟨h1, h2, h3⟩ := h
  refine ⟨h1, by omega, ?_⟩
  rcases h3 with ⟨_, _, h⟩ | ⟨h, bs0, hb, h3⟩
  · rw [h v] at hs; cases hs
  · refine .inr ⟨by omega, bs0, hb, ?_⟩
    rcases h3 with ⟨e, h4, h5⟩ | h3
    · refine .inl ⟨e, h4, fun u hu => ?_⟩
      by_cases euv : u = v
      · subst euv; rw [← h4 u hv]; exact hs
      · exact h5 u (by omega)
    · exact .inr h3
theorem PtI.new {n : Nat} {es : List Tri} {v k : Nat} {sn sn' rs : List Bool} (h : PtI n es v k sn) (hv : v < n) (hs : bAt sn v = false) (hr : Rch n es v n rs) (hl : sn'.length = n) (hu : ∀ u, u < n → bAt sn' u = (bAt sn u || bAt rs u)) : PtI n es (v + 1) (k + 1) sn' := by
  obtain ⟨h1, h2, h3⟩ := h
  refine ⟨hl, by omega, .inr ⟨by omega, ?_⟩⟩
  rcases h3 with ⟨rfl, rfl, h⟩ | ⟨h, bs0, hb, h3⟩
  · refine ⟨rs, hr, .inl ⟨rfl, fun u hun => by rw [hu u hun, h u]; rfl, fun u hu' => ?_⟩⟩
    obtain rfl : u = 0 := by omega
    exact hr.2.1.1
  · refine ⟨bs0, hb, .inr ?_⟩
    rcases h3 with ⟨e, h4, h5⟩ | ⟨e, h4⟩
    · exact ⟨by omega, v, hv, by rw [← h4 v hv]; exact hs⟩
    · exact ⟨by omega, h4⟩
theorem PtI.end_ {n : Nat} {es : List Tri} {k : Nat} {sn : List Bool} (h : PtI n es n k sn) (hn : 1 ≤ n) : k = 1 ↔ Conn n (wgt es) := by
  obtain ⟨h1, h2, ⟨e, _⟩ | ⟨_, bs0, hb, h3⟩⟩ := h
  · omega
  · rw [← rch_conn hb]
    rcases h3 with ⟨e, h4, h5⟩ | ⟨e, u, hu, h4⟩
    · exact ⟨fun _ => h5, fun _ => e⟩
    · exact ⟨fun e' => by omega, fun h => by rw [h u hu] at h4; cases h4⟩
theorem PtI.start (n : Nat) (es : List Tri) : PtI n es 0 0 (List.replicate n false) := ⟨by simp, Nat.le_refl _, .inl ⟨rfl, rfl, fun u => by
  unfold bAt
  rw [List.getD_eq_getElem?_getD, List.getElem?_replicate]; split <;> rfl⟩⟩
/-- Half way through marking. -/
def Orr (n : Nat) (sn rs : List Bool) (j : Nat) (s : List Bool) : Prop := s.length = n ∧ (∀ u, u < j → bAt s u = (bAt sn u || bAt rs u)) ∧ ∀ u, j ≤ u → bAt s u = bAt sn u
theorem bAt_setx (bs : List Bool) (b u : Nat) (x : Bool) (hb : b < bs.length) : bAt (bs.set b x) u = if u = b then x else bAt bs u := by
  unfold bAt
  rw [List.getD_eq_getElem?_getD, List.getElem?_set]
  by_cases h : b = u
  · subst h; simp [hb]
  · rw [if_neg h, if_neg (fun e => h e.symm), ← List.getD_eq_getElem?_getD]
theorem Orr.step {n : Nat} {sn rs s : List Bool} {j : Nat} (h : Orr n sn rs j s) (hj : j < n) : Orr n sn rs (j + 1) (s.set j (bAt sn j || bAt rs j)) := by
  obtain ⟨h1, h2, h3⟩ := h
  refine ⟨by simpa using h1, fun u hu => ?_, fun u hu => ?_⟩
  · rw [bAt_setx _ _ _ _ (by omega)]
    by_cases e : u = j
    · rw [if_pos e, e]
    · rw [if_neg e]; exact h2 u (by omega)
  · rw [bAt_setx _ _ _ _ (by omega), if_neg (by omega)]; exact h3 u (by omega)
theorem rParts_any (g : Value) (n : Nat) (es : List Tri) (w : World) (hg : GV w g n es) (hE : Edges n es) (hn : n ≤ 12) (hn1 : 1 ≤ n) :
    Calls Tryz.prog 100 #[g] w fun e w' => ∃ k : Nat, e = .returned (.int .i64 (k : Int)) ∧ (k = 1 ↔ Conn n (wgt es)) ∧ Below w.heap.size w w' := by
  obtain ⟨A, c, rfl, hlc, hc, hcell⟩ := hg.open_
  have hmk := run_make_row' (P := Tryz.prog) 206 4 (.bool false) 1 Tryz.underlying206 bool_info rfl .i64 .i64 n (by omega) (by omega)
  obtain ⟨W0, hW0⟩ : ∃ W0, W0 = w.alloc (.cells #[.int .i64 (n : Int), .slice A es.length c] 25) := ⟨_, rfl⟩
  have hb0 : Below w.heap.size w W0 := by rw [hW0]; exact below_alloc w _
  have hz0 : W0.heap.size = w.heap.size + 1 := by rw [hW0]; simp
  have hx0 : BL W0 w.heap.size 25 [.int .i64 (n : Int), .slice A es.length c] := by rw [hW0]; exact BL.new' w _ _
  obtain ⟨W1, hW1⟩ : ∃ W1, W1 = W0.alloc (.cells (madeCells #[Value.bool false] n) 4) := ⟨_, rfl⟩
  have hb1 : Below W0.heap.size W0 W1 := by rw [hW1]; exact below_alloc W0 _
  have hm1 : BL W1 (w.heap.size + 1) 4 ((List.replicate n false).map .bool) := by rw [hW1, ← hz0]; exact made_bool W0 n
  have c0 := hx0.cell 0
  rw [hW0] at c0
  have HX1 := Hd (hx0.bel hb1)
  have HM1 := Hd hm1
  have HB1 := Hd (hb0.trans (hb1.mono hb0.size))
  have HG := Hd hg
  have HE := Hd hE
  have HW0 := Hd hW0
  have HW1 := Hd hW1
  clear hg hE hcell hb0 hz0 hx0 hb1 hm1 hW0 hW1
  go_enter Tryz.func100, Tryz.ntmps100
  go_wp2_with fail
  rw [← HW0.out, ← HW1.out]
  clear c0 hmk
  go_loopw [3, 5] (fun cnt i wr => ∃ (v k : Nat) (sn : List Bool), v ≤ n ∧ cnt = .int .i64 (k : Int) ∧ i = .int .i64 (v : Int) ∧ Hid (PtI n es v k sn) ∧ Hid (BL wr (w.heap.size + 1) 4 (sn.map .bool)) ∧ Hid (BL wr w.heap.size 25 [.int .i64 (n : Int), .slice A es.length c]) ∧ Hid (Below w.heap.size w wr)) (fun _ i _ => n - (intOf i).toNat)
  case atStart => exact ⟨0, 0, _, Nat.zero_le _, rfl, rfl, PtI.start n es, HM1.out, HX1.out, HB1.out⟩
  case round =>
    obtain ⟨v, k, sn, hv, rfl, rfl, hP, hm, hx, hb⟩ := hrel
    have y0 := hx.out.cell 0
    have y1 := hx.out.cell 1
    by_cases hvn : v < n
    · have hvn1 : (v : Int) < n := by omega
      have hl := hP.out.1
      have hkv := hP.out.2.1
      have z0 := bl_bool hm.out (a := v) (by omega)
      cases hsv : bAt sn v
      · rw [hsv] at z0
        have HRe := Hd (reached_any _ n v es wr (HG.out.below hb.out) HE.out hn hvn)
        have HP := hP
        have HSv := Hd hsv
        have hkb : (k : Int) ≤ 12 := by omega
        obtain ⟨WO, hWO⟩ : ∃ WO, WO = wr := ⟨_, rfl⟩
        rw [← hWO] at HRe
        have hsz := hb.out.size
        have hsm := hm.out.lt
        rw [← hWO] at hsz hsm
        have HWO := Hd hWO
        clear hWO
        go_wp2_with fail
        rw [← HWO.out]
        refine HRe.out.mono ?_
        rintro e w1 ⟨rs, rfl, hbl, hrch, hb1⟩
        have hb1' : Below wr.heap.size wr w1 := by rw [← HWO.out]; exact hb1
        have HM2 := Hd (hm.out.bel hb1')
        have HX2 := Hd (hx.out.bel hb1')
        have HB2 := Hd (hb.out.trans (hb1'.mono hb.out.size))
        have HBl := Hd hbl
        have HRc := Hd hrch
        have u0 := HX2.out.cell 0
        clear hb1 hb1' hbl hrch y0 y1 z0 hm hx hb
        go_wp2_with fail
        clear u0
        go_loopw [7] (fun i wr => ∃ (j : Nat) (s : List Bool), j ≤ n ∧ i = .int .i64 (j : Int) ∧ Hid (Orr n sn rs j s) ∧ Hid (BL wr (w.heap.size + 1) 4 (s.map .bool)) ∧ Hid (BL wr (WO.heap.size + 1) 4 (rs.map .bool)) ∧ Hid (BL wr w.heap.size 25 [.int .i64 (n : Int), .slice A es.length c]) ∧ Hid (Below w.heap.size w wr)) (fun i _ => n - (intOf i).toNat)
        case atStart => exact ⟨0, sn, Nat.zero_le _, rfl, ⟨hl, fun u h => by omega, fun _ _ => rfl⟩, HM2.out, HBl.out, HX2.out, HB2.out⟩
        case round =>
          clear HM2 HBl HX2 HB2 HWO
          obtain ⟨j, s, hj, rfl, hO, hm, hr, hx, hb⟩ := hrel
          have y0 := hx.out.cell 0
          by_cases hjn : j < n
          · have hjn1 : (j : Int) < n := by omega
            have hsl := hO.out.1
            have q0 := bl_bool hm.out (a := j) (by omega)
            have q1 := hm.out.frozen j
            have q2 := bl_bool hr.out (a := j) (by have := HRc.out.1; omega)
            rw [hO.out.2.2 j (Nat.le_refl _)] at q0
            have HO2 := Hd (hO.out.step hjn)
            have hfin : Hid (∀ x, BL (wr.setCell ⟨w.heap.size + 1, j, none⟩ (.bool x)) (w.heap.size + 1) 4 ((s.set j x).map .bool) ∧ BL (wr.setCell ⟨w.heap.size + 1, j, none⟩ (.bool x)) (WO.heap.size + 1) 4 (rs.map .bool) ∧ BL (wr.setCell ⟨w.heap.size + 1, j, none⟩ (.bool x)) w.heap.size 25 [.int .i64 (n : Int), .slice A es.length c] ∧ Below w.heap.size w (wr.setCell ⟨w.heap.size + 1, j, none⟩ (.bool x))) :=
              fun x => ⟨bl_boolset hm.out j x, hr.out.set_other (by simp; omega) _, hx.out.set_other (by simp) _, hb.out.setCell (p := ⟨w.heap.size + 1, j, none⟩) (by simp) _⟩
            cases hA : bAt sn j
            · rw [hA] at q0 HO2
              cases hB : bAt rs j
              all_goals
                rw [hB] at q2 HO2
                simp only [Bool.false_or] at HO2
                clear hm hr hx hb hO hsl hA hB
                go_wp2
                go_roundw
                case rel => exact ⟨j + 1, _, by omega, by go_num, HO2.out, (hfin.out _).1, (hfin.out _).2.1, (hfin.out _).2.2.1, (hfin.out _).2.2.2⟩
                case measure => simp [intOf]; omega
            · rw [hA] at q0 HO2
              simp only [Bool.true_or] at HO2
              clear hm hr hx hb hO hsl hA
              go_wp2
              go_roundw
              case rel => exact ⟨j + 1, _, by omega, by go_num, HO2.out, (hfin.out _).1, (hfin.out _).2.1, (hfin.out _).2.2.1, (hfin.out _).2.2.2⟩
              case measure => simp [intOf]; omega
          · obtain rfl : j = n := by omega
            have HP2 := Hd (HP.out.new hvn HSv.out HRc.out hO.out.1 fun u hu => hO.out.2.1 u hu)
            go_wp2
            go_roundw
            case rel => exact ⟨v + 1, k + 1, s, by omega, by go_num, by go_num, HP2.out, hm.out, hx.out, hb.out⟩
            case measure => simp [intOf]; omega
      · rw [hsv] at z0
        have HP2 := Hd (hP.out.seen hvn hsv)
        clear hsv
        go_wp2
        go_roundw
        case rel => exact ⟨v + 1, k, sn, by omega, rfl, by go_num, HP2.out, hm.out, hx.out, hb.out⟩
        case measure => simp [intOf]; omega
    · obtain rfl : v = n := by omega
      go_wp2
      go_ret
      exact ⟨k, rfl, hP.out.end_ hn1, hb.out⟩
open Go.RowKit Go.Shelf

theorem rConn_any (g : Value) (n : Nat) (es : List Tri) (w : World) (hg : GV w g n es) (hE : Edges n es) (hn : n ≤ 12) (hn1 : 1 ≤ n) :
    Calls Tryz.prog 67 #[g] w fun e w' => e = .returned (.bool (connB n es)) ∧ Below w.heap.size w w' := by
  obtain ⟨A, c, rfl, -⟩ := hg.open_
  obtain ⟨W0, hW0⟩ : ∃ W0, W0 = w.alloc (.cells #[.int .i64 (n : Int), .slice A es.length c] 25) := ⟨_, rfl⟩
  have hb0 : Below w.heap.size w W0 := by rw [hW0]; exact below_alloc w _
  have hx0 : BL W0 w.heap.size 25 [.int .i64 (n : Int), .slice A es.length c] := by rw [hW0]; exact BL.new' w _ _
  have HC := Hd (rParts_any _ n es W0 (hg.below hb0) hE hn hn1)
  have HI := Hd (connB_iff hn1 hn hE)
  have c0 := hx0.cell 0
  have c1 := hx0.cell 1
  have HB0 := Hd hb0
  have HW0 := Hd hW0
  rw [hW0] at c0 c1
  clear hg hb0 hx0 hW0 hE
  go_enter Tryz.func67, Tryz.ntmps67
  go_wp2_with fail
  rw [← HW0.out]
  refine HC.out.mono ?_
  rintro e w1 ⟨k, rfl, hk, hb1⟩
  have HB1 := Hd (HB0.out.trans (hb1.mono HB0.out.size))
  clear hb1 c0 c1
  by_cases h1 : k = 1
  · have hcb : connB n es = true := HI.out.2 (hk.1 h1)
    have t : ((k : Int) == 1) = true := by simp; omega
    clear hk h1
    go_wp2
    go_ret
    exact ⟨ret_b hcb.symm, HB1.out⟩
  · have hcb : connB n es = false := by
      cases e : connB n es
      · rfl
      · exact absurd (hk.2 (HI.out.1 e)) h1
    have t : ((k : Int) == 1) = false := by simp; omega
    clear hk h1
    go_wp2
    go_ret
    exact ⟨ret_b hcb.symm, HB1.out⟩
theorem rJoined_any (g : Value) (n : Int) (es : List Tri) (w : World) (hg : GV w g n es) :
    Calls Tryz.prog 36 #[g] w fun e w' => e = .returned (.int .i64 (eGiven n es [])) ∧ Below w.heap.size w w' := by
  obtain ⟨A, c, rfl, hlc, hc, -⟩ := hg.open_
  obtain ⟨W0, hW0⟩ : ∃ W0, W0 = w.alloc (.cells #[.int .i64 n, .slice A es.length c] 25) := ⟨_, rfl⟩
  have hb0 : Below w.heap.size w W0 := by rw [hW0]; exact below_alloc w _
  have hx0 : BL W0 w.heap.size 25 [.int .i64 n, .slice A es.length c] := by rw [hW0]; exact BL.new' w _ _
  have hgc := rgCheck_any _ n es W0 (hg.below hb0)
  have c0 := hx0.cell 0
  have c1 := hx0.cell 1
  have HX0 := Hd hx0
  have HG0 := Hd (hg.below hb0)
  have HB0 := Hd hb0
  have HW0 := Hd hW0
  rw [hW0] at c0 c1
  clear hg hb0 hx0 hW0
  by_cases h2 : gcheckE n es = 0
  · rw [h2] at hgc
    have HGc := Hd hgc
    obtain ⟨m, rfl, h1, h12, hE⟩ := gcheckE_zero h2
    have HR : Hid (eGiven m es [] = if connB m es = false then 13 else 0) := by show _ = _; unfold eGiven; rw [if_neg (by simpa using h2)]; rfl
    have HE := Hd hE
    have hh1 : Hid (1 ≤ m ∧ m ≤ 12) := ⟨by omega, by omega⟩
    clear h2 hE hgc h1 h12
    go_enter Tryz.func36, Tryz.ntmps36
    go_wp2_with fail
    rw [← HW0.out]
    refine HGc.out.mono ?_
    rintro e w1 ⟨rfl, hb1⟩
    have hx1 := HX0.out.bel hb1
    have d0 := hx1.cell 0
    have d1 := hx1.cell 1
    have hcn := rConn_any _ m es w1 (HG0.out.below hb1) HE.out hh1.out.2 hh1.out.1
    have HB1 := Hd (HB0.out.trans (hb1.mono HB0.out.size))
    clear hb1 hx1 c0 c1
    cases hcb : connB m es
    · rw [hcb] at hcn
      have HCn := Hd hcn
      have HR2 : Hid (eGiven m es [] = 13) := by show _ = _; rw [HR.out, hcb]; rfl
      clear hcn hcb
      go_wp2_with fail
      refine HCn.out.mono ?_
      rintro e w2 ⟨rfl, hb2⟩
      have HB2 := Hd (HB1.out.trans (hb2.mono HB1.out.size))
      clear hb2
      go_wp2
      go_ret
      exact ⟨ret_i HR2.out.symm, HB2.out⟩
    · rw [hcb] at hcn
      have HCn := Hd hcn
      have HR2 : Hid (eGiven m es [] = 0) := by show _ = _; rw [HR.out, hcb]; rfl
      clear hcn hcb
      go_wp2_with fail
      refine HCn.out.mono ?_
      rintro e w2 ⟨rfl, hb2⟩
      have HB2 := Hd (HB1.out.trans (hb2.mono HB1.out.size))
      clear hb2
      go_wp2
      go_ret
      exact ⟨ret_i HR2.out.symm, HB2.out⟩
  · obtain ⟨r, hr⟩ : ∃ r, r = gcheckE n es := ⟨_, rfl⟩
    have HR : Hid (eGiven n es [] = r) := by show _ = _; unfold eGiven; rw [if_pos h2, hr]
    rw [← hr] at hgc h2
    have HGc := Hd hgc
    have t : (r != 0) = true := by simpa using h2
    clear hgc hr h2
    go_enter Tryz.func36, Tryz.ntmps36
    go_wp2_with fail
    rw [← HW0.out]
    refine HGc.out.mono ?_
    rintro e w1 ⟨rfl, hb1⟩
    have HB1 := Hd (HB0.out.trans (hb1.mono HB0.out.size))
    clear hb1 c0 c1
    go_wp2
    go_ret
    exact ⟨ret_i HR.out.symm, HB1.out⟩
open Go.RowKit Go.Shelf

theorem getD_of' {a : List Int} {j : Nat} {x : Int} (h : a[j]? = some x) : a.getD j 0 = x := by rw [List.getD_eq_getElem?_getD, h]; rfl
open Go.RowKit Go.Shelf

theorem add_add' (a : Addr) (i j : Nat) : (a.add i).add j = a.add (i + j) := add_of_add a i j
/-- A part of a slice. -/
theorem RI.sub {w : World} {a : Addr} {n c : Nat} {l : List Int} (h : RI w (.slice (some a) n c) l) {i j : Nat} (hi : i ≤ j) (hj : j ≤ l.length) : RI w (.slice (some (a.add i)) (j - i) (c - i)) ((l.take j).drop i) := by
  obtain ⟨A, c', he, h2, h3, h4⟩ := RI.open_ h
  simp only [Value.slice.injEq] at he
  obtain ⟨rfl, rfl, rfl⟩ := he
  have e : ((l.take j).drop i).length = j - i := by simp; omega
  have key := RI.mk_ (w := w) (A := some (a.add i)) (c := c - i) (zs := (l.take j).drop i) (by omega) (by omega) fun k z hk => by
    have hk1 : k < j - i := by have := (List.getElem?_eq_some_iff.1 hk).1; omega
    obtain ⟨ad, y, hA, hadb, hy, hcl⟩ := h4 (i + k) (by omega)
    cases hA
    refine ⟨_, rfl, by rw [block_of_add]; exact hadb, ?_⟩
    rw [List.getElem?_drop, List.getElem?_take_of_lt (by omega), hy.out] at hk
    cases hk
    rw [add_add']; exact hcl
  rwa [e] at key
theorem RI.emp {W : World} {A : Option Addr} {k c m : Nat} {l : List Int} (h : l.length = m) (hm : m = 0) (hk : k = 0) : RI W (.slice A k c) l := by
  have : l = [] := List.eq_nil_of_length_eq_zero (by omega)
  subst this hk
  exact ⟨A, c, rfl, by simp, by simp, fun j hj => by simp at hj⟩
theorem Bd.sub {B : Int} {l : List Int} (h : Bd B l) (h0 : 0 ≤ B) (i j : Nat) : Bd B ((l.take j).drop i) := fun k => by
  rw [List.getD_eq_getElem?_getD, List.getElem?_drop]
  by_cases c : i + k < j
  · rw [List.getElem?_take_of_lt c, ← List.getD_eq_getElem?_getD]; exact h _
  · rw [List.getElem?_eq_none (by simp; omega)]; simp; omega
open Go.RowKit Go.Shelf

theorem OV.blk {w : World} {B : Nat} {e : TypeId} {v : Value} {us : List Value} (h : OV w B e v us) {k : Nat} (hk : v.ownBlock = some k) : ∃ cur, w.heap[k]? = some (.cells cur e (0, 0)) := by
  rcases h.1.2 with ⟨rfl, _⟩ | ⟨g, cap, cur, rfl, _, hh, _⟩
  · cases hk
  · simp only [Value.ownBlock, Option.some.injEq] at hk; subst hk; exact ⟨cur, hh⟩
theorem OV.keptBox {w w' : World} {B k : Nat} {e e' : TypeId} {v : Value} {us : List Value} {cs : Array Value} {fr : Nat × Nat} (h : OV w B e v us) (hb : w.heap[k]? = some (.cells cs e' fr)) (hne : e ≠ e') (hg : w.grownBy w' (some k)) : OV w' B e v us := by
  refine ⟨h.1.kept hg ?_, h.2⟩
  cases hv : v.ownBlock with
  | none => exact .inl rfl
  | some j =>
    right; intro ej
    obtain ⟨cur, hc⟩ := h.blk hv
    injection ej with ej
    subst ej
    rw [hb] at hc
    injection hc with hc
    injection hc with _ hc
    exact hne hc.symm
end Go.Proofs.YteamhbohgoclgaaGreatDoor

