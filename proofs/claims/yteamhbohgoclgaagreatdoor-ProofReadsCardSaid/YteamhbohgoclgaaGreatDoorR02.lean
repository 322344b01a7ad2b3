/- Forests of parts: roots, joining, and when there is one part only. No program in sight. -/
import Derived.Test.YteamhbohgoclgaaGreatDoorR01
import Derived.Deep.RegionWith
set_option maxRecDepth 100000
set_option maxHeartbeats 16000000
namespace Go.Proofs.YteamhbohgoclgaaGreatDoor

def rootF (f : List Nat) (v : Nat) : Nat := if _h : f.getD v v < v then rootF f (f.getD v v) else v
termination_by v
def Fo (f : List Nat) : Prop := f.length = 12 /\ ∀ v, v < 12 -> f.getD v v <= v
theorem root_unf (f : List Nat) (v : Nat) : rootF f v = if f.getD v v < v then rootF f (f.getD v v) else v := by
 rw [rootF]; split <;> rfl
theorem root_le (f : List Nat) (v : Nat) : rootF f v <= v := by
 induction v using Nat.strongRecOn with
 | _ v ih =>
   rw [root_unf]
   split
   · next h => have := ih _ h; omega
   · omega
theorem root_fix {f : List Nat} (h : Fo f) {v : Nat} (hv : v < 12) : f.getD (rootF f v) (rootF f v) = rootF f v := by
 induction v using Nat.strongRecOn with
 | _ v ih =>
   rw [root_unf]
   split
   · next hl => exact ih _ hl (by omega)
   · have := h.2 v hv; omega
theorem root_of_fix {f : List Nat} {v : Nat} (h : f.getD v v = v) : rootF f v = v := by
 rw [root_unf, if_neg (by omega)]
theorem root_step {f : List Nat} (h : Fo f) {v : Nat} (hv : v < 12) : rootF f (f.getD v v) = rootF f v := by
 have := h.2 v hv
 rcases Nat.lt_or_ge (f.getD v v) v with c | c
 · conv => rhs; rw [root_unf, if_pos c]
 · rw [show f.getD v v = v by omega]
theorem getD_set_nat (l : List Nat) (i x j d : Nat) (hi : i < l.length) : (l.set i x).getD j d = if i = j then x else l.getD j d := by
 rw [List.getD_eq_getElem?_getD, List.getElem?_set]
 by_cases e : i = j
 · subst e; rw [if_pos rfl, if_pos rfl, if_pos hi]; rfl
 · rw [if_neg e, if_neg e, List.getD_eq_getElem?_getD]
def joinF (f : List Nat) (a b : Nat) : List Nat := f.set (max (rootF f a) (rootF f b)) (min (rootF f a) (rootF f b))
theorem joinF_fo {f : List Nat} (h : Fo f) {a b : Nat} (ha : a < 12) (hb : b < 12) : Fo (joinF f a b) := by
 have h1 := root_le f a
 have h2 := root_le f b
 refine ⟨by simp [joinF, h.1], fun v hv => ?_⟩
 unfold joinF
 rw [getD_set_nat _ _ _ _ _ (by rw [h.1]; omega)]
 split
 · omega
 · exact h.2 v hv
theorem joinF_root {f : List Nat} (h : Fo f) {a b : Nat} (ha : a < 12) (hb : b < 12) {v : Nat} (hv : v < 12) :
   rootF (joinF f a b) v = if rootF f v = max (rootF f a) (rootF f b) then min (rootF f a) (rootF f b) else rootF f v := by
 have h1 := root_le f a
 have h2 := root_le f b
 have fa := root_fix h ha
 have fb := root_fix h hb
 have hmn : rootF (joinF f a b) (min (rootF f a) (rootF f b)) = min (rootF f a) (rootF f b) := by
   apply root_of_fix
   unfold joinF
   rw [getD_set_nat _ _ _ _ _ (by rw [h.1]; omega)]
   split
   · rfl
   · rcases Nat.le_total (rootF f a) (rootF f b) with c | c
     · rw [Nat.min_eq_left c]; exact fa
     · rw [Nat.min_eq_right c]; exact fb
 induction v using Nat.strongRecOn with
 | _ v ih =>
   have hj : (joinF f a b).getD v v = if max (rootF f a) (rootF f b) = v then min (rootF f a) (rootF f b) else f.getD v v := by
     unfold joinF
     exact getD_set_nat _ _ _ _ _ (by rw [h.1]; omega)
   by_cases e : max (rootF f a) (rootF f b) = v
   · have hr : rootF f v = v := by
       apply root_of_fix
       rw [<- e]
       rcases Nat.le_total (rootF f a) (rootF f b) with c | c
       · rw [Nat.max_eq_right c]; exact fb
       · rw [Nat.max_eq_left c]; exact fa
     rw [hr, if_pos e.symm, root_unf, hj, if_pos e]
     split
     · exact hmn
     · omega
   · rw [root_unf, hj, if_neg e]
     by_cases c : f.getD v v < v
     · rw [if_pos c, ih _ c (by omega), root_step h hv]
     · have hr : rootF f v = v := by rw [root_unf, if_neg c]
       rw [if_neg c, hr, if_neg fun hh => e hh.symm]
def grownF : List Nat := List.range 12
theorem grown_get (v : Nat) (hv : v < 12) : grownF.getD v v = v := by
 unfold grownF; rw [List.getD_eq_getElem?_getD, List.getElem?_range hv]; rfl
theorem grown_fo : Fo grownF := ⟨by simp [grownF], fun v hv => by rw [grown_get v hv]; exact Nat.le_refl _⟩
def joinAll (f : List Nat) (es : List Tri) : List Nat := es.foldl (fun g t => joinF g t.1.toNat t.2.1.toNat) f
structure Says (n : Nat) (es : List Tri) (f : List Nat) : Prop where
 fo : Fo f
 sound : ∀ A : Nat -> Bool, (∀ t ∈ es, A t.1.toNat = A t.2.1.toNat) -> ∀ v, v < 12 -> A (rootF f v) = A v
 whole : ∀ t ∈ es, rootF f t.1.toNat = rootF f t.2.1.toNat
theorem says_nil (n : Nat) : Says n [] grownF := ⟨grown_fo, fun A _ v hv => by rw [root_of_fix (grown_get v hv)], by simp⟩
theorem Says.snoc {n : Nat} {es : List Tri} {f : List Nat} (h : Says n es f) {t : Tri} (ha : t.1.toNat < 12) (hb : t.2.1.toNat < 12) : Says n (es ++ [t]) (joinF f t.1.toNat t.2.1.toNat) := by
 refine ⟨joinF_fo h.fo ha hb, fun A hA v hv => ?_, fun s hs => ?_⟩
 · have hA1 := h.sound A fun s hs => hA s (List.mem_append_left _ hs)
   have hA2 := hA t (by simp)
   rw [joinF_root h.fo ha hb hv]
   split
   · next e =>
     have e1 := hA1 v hv
     have e2 := hA1 _ ha
     have e3 := hA1 _ hb
     rw [e] at e1
     rcases Nat.le_total (rootF f t.1.toNat) (rootF f t.2.1.toNat) with c | c
     · rw [Nat.max_eq_right c] at e1; rw [Nat.min_eq_left c, <- e1, e2, e3, hA2]
     · rw [Nat.max_eq_left c] at e1; rw [Nat.min_eq_right c, <- e1, e2, e3, hA2]
   · exact hA1 v hv
 · rcases List.mem_append.1 hs with hs | hs
   · have hw := h.whole s hs
     rcases Nat.lt_or_ge s.1.toNat 12 with c1 | c1
     · rcases Nat.lt_or_ge s.2.1.toNat 12 with c2 | c2
       · rw [joinF_root h.fo ha hb c1, joinF_root h.fo ha hb c2, hw]
       · exfalso
         have e : rootF f s.2.1.toNat = s.2.1.toNat := by
           rw [root_unf, if_neg]
           rw [List.getD_eq_getElem?_getD, List.getElem?_eq_none (by rw [h.fo.1]; exact c2)]
           simp
         have := root_le f s.1.toNat
         omega
     · rcases Nat.lt_or_ge s.2.1.toNat 12 with c2 | c2
       · exfalso
         have e : rootF f s.1.toNat = s.1.toNat := by
           rw [root_unf, if_neg]
           rw [List.getD_eq_getElem?_getD, List.getElem?_eq_none (by rw [h.fo.1]; exact c1)]
           simp
         have := root_le f s.2.1.toNat
         omega
       · have e : ∀ (g : List Nat) (v : Nat), g.length = 12 -> 12 <= v -> rootF g v = v := fun g v hg hv => by
           rw [root_unf, if_neg]
           rw [List.getD_eq_getElem?_getD, List.getElem?_eq_none (by omega)]
           simp
         rw [e f _ h.fo.1 c1, e f _ h.fo.1 c2] at hw
         rw [hw]
   · simp only [List.mem_singleton] at hs
     subst hs
     rw [joinF_root h.fo ha hb ha, joinF_root h.fo ha hb hb]
     by_cases c1 : rootF f s.1.toNat = max (rootF f s.1.toNat) (rootF f s.2.1.toNat) <;> by_cases c2 : rootF f s.2.1.toNat = max (rootF f s.1.toNat) (rootF f s.2.1.toNat)
     · rw [if_pos c1, if_pos c2]
     · rw [if_pos c1, if_neg c2]; omega
     · rw [if_neg c1, if_pos c2]; omega
     · exfalso; omega
theorem joinAll_says {n : Nat} (hn : n <= 12) (es pre : List Tri) (f : List Nat) (h : Says n pre f) (he : Ends n es) : Says n (pre ++ es) (joinAll f es) := by
 induction es generalizing pre f with
 | nil => simpa [joinAll] using h
 | cons t r ih =>
   have ht := he t (List.mem_cons_self ..)
   have := ih (pre ++ [t]) _ (h.snoc (t := t) (by omega) (by omega)) he.tail
   simpa [joinAll] using this
def partsN (n : Nat) (f : List Nat) : Nat := countN n fun v => decide (f.getD v v = v)
theorem countN_pos {n : Nat} {p : Nat -> Bool} {x : Nat} (hx : x < n) (h : p x = true) : 1 <= countN n p := by
 have := countN_lt (p := fun _ => false) (p' := p) (fun _ _ e => by cases e) hx rfl h
 omega
theorem countN_two {n : Nat} {p : Nat -> Bool} {x y : Nat} (hx : x < n) (hy : y < n) (hne : x ≠ y) (h : p x = true) (h' : p y = true) : 2 <= countN n p := by
 have h1 := countN_pos (p := fun v => decide (v = x)) hx (by simp)
 have := countN_lt (n := n) (p := fun v => decide (v = x)) (p' := p) (fun v _ e => by simp at e; subst e; exact h) hy (by simp; exact fun e => hne e.symm) h'
 omega
theorem countN_le_one {n : Nat} {p : Nat -> Bool} {x : Nat} (h : ∀ v, v < n -> p v = true -> v = x) : countN n p <= 1 := by
 induction n with
 | zero => exact Nat.zero_le _
 | succ n ih =>
   simp only [countN]
   by_cases hp : p n = true
   · have hx := h n (by omega) hp
     have : countN n p <= countN n fun _ => false := countN_mono fun v hv hpv => by
       have := h v (by omega) hpv; omega
     have e : ∀ m, countN m (fun _ => false) = 0 := fun m => by induction m with | zero => rfl | succ m ih => simp [countN, ih]
     rw [e] at this
     rw [if_pos hp]; omega
   · rw [if_neg hp]; exact ih fun v hv => h v (by omega)
theorem conn_parts {n : Nat} {es : List Tri} {f : List Nat} (hn1 : 1 <= n) (hn : n <= 12) (he : Ends n es) (hp : ∀ t ∈ es, 1 <= t.2.2) (h : Says n es f) : Conn n (wgt es) ↔ partsN n f = 1 := by
 have h0 : f.getD 0 0 = 0 := by have := h.fo.2 0 (by omega); omega
 have hpos : ∀ t ∈ es, 0 <= t.2.2 := fun t ht => by have := hp t ht; omega
 unfold partsN
 constructor
 · intro hc
   have hge := countN_pos (n := n) (p := fun v => decide (f.getD v v = v)) (x := 0) (by omega) (by simpa using h0)
   have hle : countN n (fun v => decide (f.getD v v = v)) <= 1 := countN_le_one (x := 0) fun r hr hpr => by
     simp only [decide_eq_true_eq] at hpr
     apply Classical.byContradiction
     intro hne
     obtain ⟨v, u, hv, hu, ha, hb, hw⟩ := hc (fun v => decide (rootF f v = r)) ⟨r, hr, by simp [root_of_fix hpr]⟩ ⟨0, by omega, by simp only [decide_eq_false_iff_not]; rw [root_of_fix h0]; omega⟩
     simp only [decide_eq_true_eq, decide_eq_false_iff_not] at ha hb
     obtain ⟨t, ht, hne', hh⟩ := wgt_pos_mem hw
     have hw' := h.whole t ht
     rcases hh with ⟨e1, e2⟩ | ⟨e1, e2⟩
     · rw [e1, e2] at hw'; simp only [Int.toNat_natCast] at hw'; exact hb (hw' ▸ ha)
     · rw [e1, e2] at hw'; simp only [Int.toNat_natCast] at hw'; exact hb (hw'.trans ha)
   omega
 · intro h1 A hA hB
   apply Classical.byContradiction
   intro hno
   have hroot : ∀ v, v < n -> rootF f v = 0 := fun v hv => by
     apply Classical.byContradiction
     intro hne
     have := root_le f v
     have := countN_two (n := n) (p := fun v => decide (f.getD v v = v)) (x := rootF f v) (y := 0) (by omega) (by omega) hne (by simpa using root_fix h.fo (by omega)) (by simpa using h0)
     omega
   have hcl : ∀ t ∈ es, A t.1.toNat = A t.2.1.toNat := fun t ht => by
     by_cases e : t.1 = t.2.1
     · rw [e]
     · have hb := he t ht
       have h1' := wgt_mem_le hpos ht (v := t.1.toNat) (u := t.2.1.toNat) ⟨e, .inl ⟨by omega, by omega⟩⟩
       have h2' := wgt_mem_le hpos ht (v := t.2.1.toNat) (u := t.1.toNat) ⟨e, .inr ⟨by omega, by omega⟩⟩
       have := hp t ht
       cases c1 : A t.1.toNat <;> cases c2 : A t.2.1.toNat
       · rfl
       · exact absurd ⟨_, _, by omega, by omega, c2, c1, by omega⟩ hno
       · exact absurd ⟨_, _, by omega, by omega, c1, c2, by omega⟩ hno
       · rfl
   have hs := h.sound A hcl
   obtain ⟨v, hv, ha⟩ := hA
   obtain ⟨u, hu, hb⟩ := hB
   have e1 := hs v (by omega)
   have e2 := hs u (by omega)
   rw [hroot v hv] at e1
   rw [hroot u hu] at e2
   rw [ha] at e1; rw [hb] at e2
   rw [e1] at e2; cases e2
open Go.RowKit

def EV (w : World) (v : Value) (es : List Tri) : Prop := ∃ A c, v = .slice A es.length c /\ es.length <= c /\ es.length <= 17592186044415 /\
 ∀ k, k < es.length -> ∃ ad a b m, A = some ad /\ ad.block < w.heap.size /\ Hid (es[k]? = some (a, b, m)) /\ w.cell? (ad.add (k * 3)) = some (.int .i64 a) /\ w.cell? ⟨(ad.add (k * 3)).block, (ad.add (k * 3)).off + 1, none⟩ = some (.int .i64 b) /\ w.cell? ⟨(ad.add (k * 3)).block, (ad.add (k * 3)).off + 2, none⟩ = some (.int .i64 m)
theorem EV.below {w w' : World} {v : Value} {es : List Tri} (h : EV w v es) (hb : Below w.heap.size w w') : EV w' v es := by
 obtain ⟨A, c, h1, h2, h3, h4⟩ := h
 refine ⟨A, c, h1, h2, h3, fun k hk => ?_⟩
 obtain ⟨ad, a, b, m, e, hl, ht, c1, c2, c3⟩ := h4 k hk
 have hs := hb.size
 refine ⟨ad, a, b, m, e, by omega, ht, ?_, ?_, ?_⟩
 · exact (hb.cell (by rw [block_of_add]; exact hl)).trans c1
 · exact (hb.cell (by rw [block_of_add]; exact hl)).trans c2
 · exact (hb.cell (by rw [block_of_add]; exact hl)).trans c3
theorem tri_cells {w wr : World} {ad : Addr} {k : Nat} {B : Nat} {a b m : Int} (hb : Below B w wr) (hl : ad.block < B)
   (c1 : w.cell? (ad.add (k * 3)) = some (.int .i64 a)) (c2 : w.cell? ⟨(ad.add (k * 3)).block, (ad.add (k * 3)).off + 1, none⟩ = some (.int .i64 b)) (c3 : w.cell? ⟨(ad.add (k * 3)).block, (ad.add (k * 3)).off + 2, none⟩ = some (.int .i64 m)) :
   wr.cell? (ad.add (k * 3)) = some (.int .i64 a) /\ wr.cell? ⟨(ad.add (k * 3)).block, (ad.add (k * 3)).off + 1, none⟩ = some (.int .i64 b) /\ wr.cell? ⟨(ad.add (k * 3)).block, (ad.add (k * 3)).off + 2, none⟩ = some (.int .i64 m) :=
 ⟨(hb.cell (by rw [block_of_add]; exact hl)).trans c1, (hb.cell (by rw [block_of_add]; exact hl)).trans c2, (hb.cell (by rw [block_of_add]; exact hl)).trans c3⟩
def GV (w : World) (g : Value) (n : Int) (es : List Tri) : Prop := ∃ v, g = .agg #[.int .i64 n, v] /\ EV w v es
theorem GV.below {w w' : World} {g : Value} {n : Int} {es : List Tri} (h : GV w g n es) (hb : Below w.heap.size w w') : GV w' g n es := by
 obtain ⟨v, e, h⟩ := h
 exact ⟨v, e, h.below hb⟩
theorem GV.open_ {w : World} {g : Value} {n : Int} {es : List Tri} (h : GV w g n es) : ∃ A c, g = .agg #[.int .i64 n, .slice A es.length c] /\ es.length <= c /\ es.length <= 17592186044415 /\
   ∀ k, k < es.length -> ∃ ad a b m, A = some ad /\ ad.block < w.heap.size /\ Hid (es[k]? = some (a, b, m)) /\ w.cell? (ad.add (k * 3)) = some (.int .i64 a) /\ w.cell? ⟨(ad.add (k * 3)).block, (ad.add (k * 3)).off + 1, none⟩ = some (.int .i64 b) /\ w.cell? ⟨(ad.add (k * 3)).block, (ad.add (k * 3)).off + 2, none⟩ = some (.int .i64 m) := by
 obtain ⟨v, rfl, A, c, rfl, h1, h2, h3⟩ := h
 exact ⟨A, c, rfl, h1, h2, h3⟩
theorem ret_i {k : IntKind} {a b : Int} (h : a = b) : Ending.returned (.int k a) = .returned (.int k b) := by rw [h]
theorem ret_b {a b : Bool} (h : a = b) : Ending.returned (.bool a) = .returned (.bool b) := by rw [h]

def cmpI (x y : Int) : Int := if x < y then -1 else if y < x then 1 else 0
theorem isNaN_any (x : Int) (w : World) : Calls Tryz.prog 307 #[.int .i64 x] w fun e w' => e = .returned (.bool false) /\ w = w' := by
 go_enter Tryz.func307, Tryz.ntmps307
 go_wp2
 go_ret
 exact ⟨ret_b (by simp), rfl⟩
theorem cmp_any (x y : Int) (w : World) : Calls Tryz.prog 251 #[.int .i64 x, .int .i64 y] w fun e w' => e = .returned (.int .i64 (cmpI x y)) /\ w = w' := by
 go_enter Tryz.func251, Tryz.ntmps251
 go_wp2_with (go_at_call 307; refine (isNaN_any _ _).mono ?_; rintro e w' ⟨rfl, rfl⟩)
 all_goals (go_ret; refine ⟨ret_i ?_, rfl⟩; simp only [cmpI]; split <;> (try split) <;> omega)
def vtxB (n v : Int) : Bool := decide (0 <= v) && decide (v < n)
theorem vtxB_iff (n v : Int) : vtxB n v = true ↔ 0 <= v /\ v < n := by simp [vtxB]
theorem vertex_any (n v : Int) (w : World) : Calls Tryz.prog 191 #[.int .i64 n, .int .i64 v] w fun e w' => e = .returned (.bool (vtxB n v)) /\ w = w' := by
 by_cases h : 0 <= v
 · go_enter Tryz.func191, Tryz.ntmps191
   go_wp2
   go_ret
   exact ⟨ret_b (by simp [vtxB, h]), rfl⟩
 · go_enter Tryz.func191, Tryz.ntmps191
   go_wp2
   go_ret
   exact ⟨ret_b (by simp [vtxB]; omega), rfl⟩
def orI (x y : Int) : Int := if x ≠ 0 then x else y
theorem or_any (x y : Int) (h : Nat) (c : Nat) (w : World) (h0 : w.cell? ⟨h, 0, none⟩ = some (.int .i64 x)) (h1 : w.cell? ⟨h, 1, none⟩ = some (.int .i64 y)) :
   Calls Tryz.prog 250 #[.slice (some ⟨h, 0, none⟩) 2 c] w fun e w' => e = .returned (.int .i64 (orI x y)) /\ w = w' := by
 go_enter Tryz.func250, Tryz.ntmps250
 go_wp2
 by_cases hx : x = 0
 · have e0 : (x != 0) = false := by simp [hx]
   by_cases hy : y = 0
   · have e1 : (y != 0) = false := by simp [hy]
     have HX := Hd hx
     have HY := Hd hy
     clear hx hy
     refine wp_loop_rounds 3 ?_
     rw [rounds_succ]
     go_wp2
     rw [rounds_succ]
     go_wp2
     rw [rounds_succ]
     go_wp2
     go_ret
     exact ⟨ret_i (by simp [orI, HX.out, HY.out]), rfl⟩
   · have e1 : (y != 0) = true := by simp [hy]
     have HX := Hd hx
     have HY := Hd hy
     clear hx hy
     refine wp_loop_rounds 2 ?_
     rw [rounds_succ]
     go_wp2
     rw [rounds_succ]
     go_wp2
     go_ret
     exact ⟨ret_i (by simp [orI, HX.out]), rfl⟩
 · have e0 : (x != 0) = true := by simp [hx]
   have HX := Hd hx
   clear hx
   refine wp_loop_rounds 1 ?_
   rw [rounds_succ]
   go_wp2
   go_ret
   exact ⟨ret_i (by simp [orI, HX.out]), rfl⟩

theorem cell_lit {w : World} {us : Array Value} {e : TypeId} {h k : Nat} (hh : w.heap.size = h) : (w.alloc (.cells us e)).cell? ⟨h, k, none⟩ = us[k]? := by
 subst hh; exact cell_of_row (w.alloc (.cells us e)) w.heap.size k us e (0, 0) (heap_alloc_new w _)
theorem cell_litd {w : World} {us : Array Value} {e : TypeId} {h k : Nat} (hh : w.heap.size = h) : (w.alloc (.cells us e)).drew.cell? ⟨h, k, none⟩ = us[k]? := cell_lit hh
theorem or_lit (x y : Int) (w : World) (h : Nat) (hh : w.heap.size = h) : Calls Tryz.prog 250 #[.slice (some ⟨h, 0, none⟩) 2 2] (w.alloc (.cells #[.int .i64 x, .int .i64 y] 3)).drew fun e w' => e = .returned (.int .i64 (orI x y)) /\ (w.alloc (.cells #[.int .i64 x, .int .i64 y] 3)).drew = w' :=
 or_any x y h 2 _ (cell_litd hh) (cell_litd hh)
def cmpP (a b c d : Int) : Int := orI (cmpI a c) (cmpI b d)
theorem compare_any (a b c d : Int) (w : World) : Calls Tryz.prog 192 #[.agg #[.int .i64 a, .int .i64 b], .agg #[.int .i64 c, .int .i64 d]] w fun e w' => e = .returned (.int .i64 (cmpP a b c d)) /\ Below w.heap.size w w' := by
 obtain ⟨W, hW⟩ : ∃ W, W = (w.alloc (.cells #[.int .i64 a, .int .i64 b] 269)).alloc (.cells #[.int .i64 c, .int .i64 d] 269) := ⟨_, rfl⟩
 have hb : Below w.heap.size w W := by rw [hW]; exact (below_alloc w _).alloc (by simp) _
 have hs : W.heap.size = w.heap.size + 1 + 1 := by rw [hW]; simp
 have c0 : W.cell? ⟨w.heap.size, 0, none⟩ = some (.int .i64 a) := by rw [hW]; exact (World.cell?_alloc_lt _ _ _ (by simp)).trans (cell_lit rfl)
 have c1 : W.cell? ⟨w.heap.size, 1, none⟩ = some (.int .i64 b) := by rw [hW]; exact (World.cell?_alloc_lt _ _ _ (by simp)).trans (cell_lit rfl)
 have c2 : W.cell? ⟨w.heap.size + 1, 0, none⟩ = some (.int .i64 c) := by rw [hW]; exact cell_lit (by simp)
 have c3 : W.cell? ⟨w.heap.size + 1, 1, none⟩ = some (.int .i64 d) := by rw [hW]; exact cell_lit (by simp)
 have HS := Hd hs
 have HB := Hd hb
 have HW := Hd hW
 clear hs hb hW
 go_enter Tryz.func192, Tryz.ntmps192
 go_wp2
 rw [<- HW.out]
 clear HW
 refine wp_region_still_tail 10 (by kernel_rfl) (by kernel_rfl) ?_
 change wpStill _ _ W.drew _ _ _
 simp only [List.take_succ_cons, List.take_zero, List.drop_succ_cons, List.drop_zero]
 repeat still_step
 still_call ((cmp_any a c _).mono fun _ _ h => ⟨h.1, h.2.symm⟩)
 repeat still_step
 still_call ((cmp_any b d _).mono fun _ _ h => ⟨h.1, h.2.symm⟩)
 repeat still_step
 refine wpStill_nil ?_
 change wpList _ _ _ _ _ W.drew
 go_wp2_with (go_at_call 250; refine (or_lit (cmpI a c) (cmpI b d) _ _ (by simp)).mono ?_; rintro e w' ⟨rfl, rfl⟩)
 go_ret
 exact ⟨rfl, (HB.out.trans ((below_alloc W _).mono (by rw [HS.out]; omega))).drew⟩

theorem bcell {W w1 : World} (hb : Below W.heap.size W w1) : (∀ b o, b < W.heap.size -> w1.cell? ⟨b, o, none⟩ = W.cell? ⟨b, o, none⟩) /\ (∀ b o, b < W.heap.size -> w1.frozen? ⟨b, o, none⟩ = W.frozen? ⟨b, o, none⟩) :=
 ⟨fun b o h => hb.cell (p := ⟨b, o, none⟩) h, fun b o h => hb.frozen (p := ⟨b, o, none⟩) h⟩
theorem okE_lt {n la lb a b m : Int} (h1 : vtxB n a = true) (h2 : vtxB n b = true) (h3 : ¬ m < 1) (h4 : ¬ 50 < m) : okE n (la, lb) (a, b, m) = if b < a \/ 0 <= cmpP la lb a b then 9 else 0 := by
 rw [vtxB_iff] at h1 h2
 unfold okE
 simp only
 rw [if_neg (by omega)]
 have e : (b < a \/ a < la \/ a = la /\ b <= lb) ↔ (b < a \/ 0 <= cmpP la lb a b) := by
   have : (a < la \/ a = la /\ b <= lb) ↔ 0 <= cmpP la lb a b := by
     unfold cmpP orI cmpI
     constructor
     · intro h
       repeat' split
       all_goals omega
     · intro h
       revert h
       repeat' split
       all_goals omega
   rw [this]
 by_cases c : b < a \/ 0 <= cmpP la lb a b
 · rw [if_pos (e.2 c), if_pos c]
 · rw [if_neg fun h => c (e.1 h), if_neg c]
theorem okE_bad {n la lb a b m : Int} (h : vtxB n a = false \/ vtxB n b = false \/ m < 1 \/ 50 < m) : okE n (la, lb) (a, b, m) = 2 := by
 unfold okE
 simp only
 rw [if_pos]
 simp only [vtxB, Bool.and_eq_false_iff, decide_eq_false_iff_not] at h
 omega

theorem gCheck_any (g : Value) (n : Int) (es : List Tri) (w : World) (hg : GV w g n es) :
   Calls Tryz.prog 140 #[g] w fun e w' => e = .returned (.int .i64 (gcheckE n es)) /\ Below w.heap.size w w' := by
 obtain ⟨A, c, rfl, hlc, hc, hcell⟩ := hg.open_
 have HC := Hd hcell
 clear hcell hg
 by_cases h1 : n < 1
 · go_enter Tryz.func140, Tryz.ntmps140
   go_wp2
   go_ret
   exact ⟨ret_i (by simp [gcheckE, h1]), below_alloc w _⟩
 by_cases h2 : 12 < n
 · go_enter Tryz.func140, Tryz.ntmps140
   go_wp2
   go_ret
   exact ⟨ret_i (by simp [gcheckE, h2]), below_alloc w _⟩
 have HE := Hd (show gcheckE n es = gcheckL n (-1, -1) es by unfold gcheckE; rw [if_neg (by omega)])
 go_enter Tryz.func140, Tryz.ntmps140
 go_wp2
 go_loopw [19] (fun i wr => ∃ (k : Nat) (la lb : Int), k <= es.length /\ i = .int .i64 k /\ Hid (gcheckL n (la, lb) (es.drop k) = gcheckL n (-1, -1) es) /\ w.heap.size + 1 < wr.heap.size /\
   wr.cell? ⟨w.heap.size, 0, none⟩ = some (.int .i64 n) /\ wr.cell? ⟨w.heap.size + 1, 0, none⟩ = some (.int .i64 la) /\ wr.cell? ⟨w.heap.size + 1, 1, none⟩ = some (.int .i64 lb) /\
   wr.frozen? ⟨w.heap.size + 1, 0, none⟩ = false /\ wr.frozen? ⟨w.heap.size + 1, 1, none⟩ = false /\ Hid (Below w.heap.size w wr)) (fun i _ => es.length - (intOf i).toNat)
 case atStart =>
   exact ⟨0, -1, -1, Nat.zero_le _, rfl, rfl, by simp, by go_simp, by go_simp, by go_simp, by go_simp, by go_simp, (below_alloc w _).alloc (by simp) _⟩
 case round =>
   obtain ⟨k, la, lb, hk, rfl, hr, hsz, hn, hla, hlb, hf1, hf2, hbel⟩ := hrel
   by_cases hlt : k < es.length
   · obtain ⟨ad, a, b, m, rfl, hab, ht, c1, c2, c3⟩ := HC.out k hlt
     obtain ⟨d1, d2, d3⟩ := tri_cells hbel.out hab c1 c2 c3
     have HD := Hd (drop_at ht)
     clear c1 c2 c3 HC
     have h0 : w.heap.size < wr.heap.size := by omega
     have FIN : Hid (∀ x, okE n (la, lb) (a, b, m) = x -> x ≠ 0 -> x = gcheckE n es) := fun x hx hx0 => by
       rw [HE.out, <- hr.out, HD.out]; unfold gcheckL; rw [hx, if_pos hx0]
     have GO : Hid (okE n (la, lb) (a, b, m) = 0 -> gcheckL n (a, b) (es.drop (k + 1)) = gcheckL n (-1, -1) es) := fun hx => by
       have := hr.out; rw [HD.out] at this; rw [<- this]; conv => rhs; unfold gcheckL
       rw [hx]; simp
     clear HD ht
     cases hA : vtxB n a
     · have PR : Hid (okE n (la, lb) (a, b, m) = 2) := okE_bad (.inl hA)
       go_wp2_with (go_at_call 191; refine (vertex_any _ _ _).mono ?_; rintro e w' ⟨rfl, rfl⟩)
       go_ret
       exact ⟨ret_i (FIN.out 2 PR.out (by omega)), (hbel.out.alloc (by omega) _).alloc (by simp; omega) _⟩
     cases hB : vtxB n b
     · have PR : Hid (okE n (la, lb) (a, b, m) = 2) := okE_bad (.inr (.inl hB))
       go_wp2_with (go_at_call 191; refine (vertex_any _ _ _).mono ?_; rintro e w' ⟨rfl, rfl⟩)
       go_ret
       exact ⟨ret_i (FIN.out 2 PR.out (by omega)), (hbel.out.alloc (by omega) _).alloc (by simp; omega) _⟩
     by_cases hm1 : m < 1
     · have PR : Hid (okE n (la, lb) (a, b, m) = 2) := okE_bad (.inr (.inr (.inl hm1)))
       go_wp2_with (go_at_call 191; refine (vertex_any _ _ _).mono ?_; rintro e w' ⟨rfl, rfl⟩)
       go_ret
       exact ⟨ret_i (FIN.out 2 PR.out (by omega)), (hbel.out.alloc (by omega) _).alloc (by simp; omega) _⟩
     by_cases hm2 : 50 < m
     · have PR : Hid (okE n (la, lb) (a, b, m) = 2) := okE_bad (.inr (.inr (.inr hm2)))
       go_wp2_with (go_at_call 191; refine (vertex_any _ _ _).mono ?_; rintro e w' ⟨rfl, rfl⟩)
       go_ret
       exact ⟨ret_i (FIN.out 2 PR.out (by omega)), (hbel.out.alloc (by omega) _).alloc (by simp; omega) _⟩
     have OK := Hd (okE_lt (la := la) (lb := lb) hA hB hm1 hm2)
     by_cases hba : b < a
     · have PR : Hid (okE n (la, lb) (a, b, m) = 9) := by show _ = _; rw [OK.out, if_pos (.inl hba)]
       go_wp2_with (go_at_call 191; refine (vertex_any _ _ _).mono ?_; rintro e w' ⟨rfl, rfl⟩)
       go_ret
       exact ⟨ret_i (FIN.out 9 PR.out (by omega)), (hbel.out.alloc (by omega) _).alloc (by simp; omega) _⟩
     have hW : Hid (Below w.heap.size w ((wr.alloc (.cells #[.int .i64 a, .int .i64 b, .int .i64 m] 68)).alloc (.cells #[.int .i64 a, .int .i64 b] 269))) := (hbel.out.alloc (by omega) _).alloc (by simp; omega) _
     go_wp2_with (first | (go_at_call 191; refine (vertex_any _ _ _).mono ?_; rintro e w' ⟨rfl, rfl⟩) | (go_at_call 192; refine (compare_any la lb a b _).mono ?_; rintro e w' ⟨rfl, hb'⟩; have HB := Hd hb'; obtain ⟨hcc, hff⟩ := bcell hb'; have hz := hb'.size; simp only [World.size_alloc] at hz; clear hb'))
     · have hx : b < a \/ 0 <= cmpP la lb a b := by assumption
       go_ret
       exact ⟨ret_i (FIN.out 9 (by rw [OK.out, if_pos hx]) (by omega)), hW.out.trans (HB.out.mono (by simp; omega))⟩
     · have hx : ¬ (b < a \/ 0 <= cmpP la lb a b) := by omega
       go_roundw
       case rel =>
         have q : ∀ x o, x < wr.heap.size -> w'.cell? ⟨x, o, none⟩ = wr.cell? ⟨x, o, none⟩ /\ w'.frozen? ⟨x, o, none⟩ = wr.frozen? ⟨x, o, none⟩ := fun x o hx =>
           ⟨(hcc x o (by simp; omega)).trans ((World.cell?_alloc_lt _ _ _ (by simp; omega)).trans (World.cell?_alloc_lt _ _ _ hx)), (HB.out.frozen (p := ⟨x, o, none⟩) (by simp; omega)).trans ((((below_alloc wr _).alloc (by simp) _).frozen (p := ⟨x, o, none⟩) hx))⟩
         have q1 := (q w.heap.size 0 h0).1.trans hn
         have q2 := (q (w.heap.size + 1) 0 hsz).1.trans hla
         have q3 := (q (w.heap.size + 1) 1 hsz).1.trans hlb
         refine ⟨k + 1, a, b, by omega, by go_num, GO.out (by rw [OK.out, if_neg hx]), by simp; omega, ?_, ?_, ?_, ?_, ?_, ?_⟩
         · rw [World.cell?_setCell_other _ _ _ _ (by simp), World.cell?_setCell_other _ _ _ _ (by simp), q1]
         · rw [World.cell?_setCell_other _ _ _ _ (by simp), World.cell?_setCell_same _ _ _ q2]
         · exact World.cell?_setCell_same _ _ _ ((World.cell?_setCell_other _ _ _ _ (by simp)).trans q3)
         · rw [World.frozen?_setCell, World.frozen?_setCell, (q (w.heap.size + 1) 0 hsz).2, hf1]
         · rw [World.frozen?_setCell, World.frozen?_setCell, (q (w.heap.size + 1) 1 hsz).2, hf2]
         · exact ((hW.out.trans (HB.out.mono (by simp; omega))).setCell (p := ⟨w.heap.size + 1, 0, none⟩) (by simp) _).setCell (p := ⟨w.heap.size + 1, 1, none⟩) (by simp) _
       case measure => simp [intOf]; omega
   · go_wp2
     go_ret
     exact ⟨ret_i (by rw [HE.out, <- hr.out, List.drop_of_length_le (by omega)]; rfl), hbel.out⟩

def BL (w : World) (b : Nat) (T : TypeId) (us : List Value) : Prop := w.heap[b]? = some (.cells us.toArray T (0, 0))
theorem BL.lt {w : World} {b : Nat} {T : TypeId} {us : List Value} (h : BL w b T us) : b < w.heap.size := lt_of_block h
theorem BL.cell {w : World} {b : Nat} {T : TypeId} {us : List Value} (h : BL w b T us) (k : Nat) : w.cell? ⟨b, k, none⟩ = us[k]? := by
 rw [cell_of_row w b k _ T (0, 0) h]; simp
theorem BL.frozen {w : World} {b : Nat} {T : TypeId} {us : List Value} (h : BL w b T us) (k : Nat) : w.frozen? ⟨b, k, none⟩ = false := frozen_of_row w b k _ T h
theorem BL.below {w w' : World} {b B : Nat} {T : TypeId} {us : List Value} (h : BL w b T us) (hb : Below B w w') (hl : b < B) : BL w' b T us := (hb.block b hl).trans h
theorem BL.bel {w w' : World} {b : Nat} {T : TypeId} {us : List Value} (h : BL w b T us) (hb : Below w.heap.size w w') : BL w' b T us := h.below hb h.lt
theorem BL.alloc {w : World} {b : Nat} {T : TypeId} {us : List Value} (h : BL w b T us) (o : Obj) : BL (w.alloc o) b T us := (Below.heap_alloc w o b h.lt).trans h
theorem BL.drew {w : World} {b : Nat} {T : TypeId} {us : List Value} (h : BL w b T us) : BL w.drew b T us := h
theorem BL.new' (w : World) (us : Array Value) (T : TypeId) : BL (w.alloc (.cells us T)) w.heap.size T us.toList := heap_alloc_new w _
theorem BL.set {w : World} {b : Nat} {T : TypeId} {us : List Value} (h : BL w b T us) (k : Nat) (v : Value) : BL (w.setCell ⟨b, k, none⟩ v) b T (us.set k v) := by
 have := heap_setCell_same w b k _ T v h
 unfold BL
 simpa using this
theorem BL.set_other {w : World} {b : Nat} {T : TypeId} {us : List Value} (h : BL w b T us) {a : Addr} (ha : b ≠ a.block) (v : Value) : BL (w.setCell a v) b T us := (heap_setCell_other w a b v ha).trans h
theorem BL.grown {w w' : World} {b : Nat} {T : TypeId} {us : List Value} (h : BL w b T us) {row : Option Nat} (hg : w.grownBy w' row) (hr : row ≠ some b) : BL w' b T us := by
 have := hg.block b h.lt (fun e => hr e.symm)
 exact this.trans h
def nvL (f : List Nat) : List Value := f.map fun x : Nat => Value.int .i64 (x : Int)
theorem nvL_get {f : List Nat} {k : Nat} (hk : k < f.length) : (nvL f)[k]? = some (.int .i64 (f.getD k k : Nat)) := by
 simp [nvL, List.getElem?_eq_getElem hk]
theorem nvL_set (f : List Nat) (k x : Nat) : (nvL f).set k (.int .i64 (x : Int)) = nvL (f.set k x) := by simp [nvL, List.map_set]

theorem nvL_at {f : List Nat} (h : Fo f) {k : Nat} (hk : k < 12) : (nvL f)[k]? = some (.int .i64 (f.getD k k : Nat)) := nvL_get (by rw [h.1]; exact hk)
theorem root_any (f : List Nat) (b v : Nat) (T : TypeId) (w : World) (hf : Fo f) (hv : v < 12) (hb : BL w b T (nvL f)) :
   Calls Tryz.prog 195 #[.pointer (some ⟨b, 0, none⟩), .int .i64 (v : Int)] w fun e w' => e = .returned (.int .i64 (rootF f v : Nat)) /\ w = w' := by
 have HB := Hd hb
 have HF := Hd hf
 clear hb hf
 go_enter Tryz.func195, Tryz.ntmps195
 go_wp2
 go_loop [1] (fun i => ∃ k : Nat, k < 12 /\ i = .int .i64 k /\ Hid (rootF f k = rootF f v)) (fun i => (intOf i).toNat)
 case atStart => exact ⟨v, hv, rfl, rfl⟩
 case round =>
   obtain ⟨k, hk, rfl, hr⟩ := hrel
   have hle := HF.out.2 k hk
   have hs := Hd (root_step HF.out hk)
   have hx : Hid (¬ f.getD k k < k -> rootF f k = k) := fun h => by rw [root_unf, if_neg h]
   have hcl := (HB.out.cell k).trans (nvL_at HF.out hk)
   generalize f.getD k k = x at *
   by_cases hlt : x < k
   · have hne : ((x : Int) != k) = true := by simp; omega
     go_wp2
     go_round
     case rel => exact ⟨x, by omega, rfl, hs.out.trans hr.out⟩
     case measure => simp [intOf]; omega
   · have hxk : x = k := by omega
     have hne : ((x : Int) != k) = false := by simp; omega
     have HX := Hd hxk
     clear hxk
     go_wp2
     go_ret
     exact ⟨ret_i (by rw [<- hr.out, hx.out hlt]), rfl⟩

theorem join_any (f : List Nat) (b x y : Nat) (T : TypeId) (w : World) (hf : Fo f) (hx : x < 12) (hy : y < 12) (hb : BL w b T (nvL f)) :
   Calls Tryz.prog 194 #[.pointer (some ⟨b, 0, none⟩), .int .i64 (x : Int), .int .i64 (y : Int)] w fun e w' => (∃ v, e = .returned v) /\ BL w' b T (nvL (joinF f x y)) /\ Below b w w' := by
 have HB := Hd hb
 have HF := Hd hf
 have h1 := root_le f x
 have h2 := root_le f y
 obtain ⟨r, hr⟩ : ∃ r, r = rootF f x := ⟨_, rfl⟩
 obtain ⟨s, hs⟩ : ∃ s, s = rootF f y := ⟨_, rfl⟩
 have HX := Hd (root_any f b x T w hf hx hb)
 have HY := Hd (root_any f b y T w hf hy hb)
 rw [<- hr] at h1 HX
 rw [<- hs] at h2 HY
 have HR := Hd hr
 have HS := Hd hs
 clear hb hf hr hs
 rcases Nat.lt_or_ge r s with hle | hle
 · have hc := (HB.out.cell s).trans (nvL_at HF.out (by omega))
   have hfr := HB.out.frozen s
   have hset : Hid (BL (w.setCell ⟨b, s, none⟩ (.int .i64 r)) b T (nvL (joinF f x y))) := by
     have := HB.out.set s (.int .i64 (r : Nat))
     rw [nvL_set] at this
     unfold joinF; rw [<- HR.out, <- HS.out, Nat.max_eq_right (by omega), Nat.min_eq_left (by omega)]; exact this
   go_enter Tryz.func194, Tryz.ntmps194
   go_wp2_with fail
   refine HX.out.mono ?_
   rintro e w' ⟨rfl, rfl⟩
   go_wp2_with fail
   refine HY.out.mono ?_
   rintro e w' ⟨rfl, rfl⟩
   go_wp2
   go_end0
   exact ⟨⟨_, rfl⟩, hset.out, (Below.refl _ _).setCell (p := ⟨b, s, none⟩) (Nat.le_refl _) _⟩
 rcases Nat.lt_or_ge s r with hlt | hge
 · have hc := (HB.out.cell r).trans (nvL_at HF.out (by omega))
   have hfr := HB.out.frozen r
   have hset : Hid (BL (w.setCell ⟨b, r, none⟩ (.int .i64 s)) b T (nvL (joinF f x y))) := by
     have := HB.out.set r (.int .i64 (s : Nat))
     rw [nvL_set] at this
     unfold joinF; rw [<- HR.out, <- HS.out, Nat.max_eq_left (by omega), Nat.min_eq_right (by omega)]; exact this
   go_enter Tryz.func194, Tryz.ntmps194
   go_wp2_with fail
   refine HX.out.mono ?_
   rintro e w' ⟨rfl, rfl⟩
   go_wp2_with fail
   refine HY.out.mono ?_
   rintro e w' ⟨rfl, rfl⟩
   go_wp2
   go_end0
   exact ⟨⟨_, rfl⟩, hset.out, (Below.refl _ _).setCell (p := ⟨b, r, none⟩) (Nat.le_refl _) _⟩
 · obtain rfl : s = r := by omega
   have hc := (HB.out.cell s).trans (nvL_at HF.out (by omega))
   have hfr := HB.out.frozen s
   have hset : Hid (BL (w.setCell ⟨b, s, none⟩ (.int .i64 s)) b T (nvL (joinF f x y))) := by
     have := HB.out.set s (.int .i64 (s : Nat))
     rw [nvL_set] at this
     unfold joinF; rw [<- HR.out, <- HS.out, Nat.max_eq_left (by omega), Nat.min_eq_right (by omega)]; exact this
   go_enter Tryz.func194, Tryz.ntmps194
   go_wp2_with fail
   refine HX.out.mono ?_
   rintro e w' ⟨rfl, rfl⟩
   go_wp2_with fail
   refine HY.out.mono ?_
   rintro e w' ⟨rfl, rfl⟩
   go_wp2
   go_end0
   exact ⟨⟨_, rfl⟩, hset.out, (Below.refl _ _).setCell (p := ⟨b, s, none⟩) (Nat.le_refl _) _⟩
end Go.Proofs.YteamhbohgoclgaaGreatDoor
