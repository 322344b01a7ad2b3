/- Contracts of slices at divisors, scripts and ints: Equal, Clone, IndexFunc, ContainsFunc, Compare, Min, Max. Printed by gen/slices35.py. -/
import Derived.Test.YteamhbohgoclgaaGreatDoorR03
import Derived.LoopIn
import Derived.LoopNIn
import Derived.OwnWalkIn
import Derived.RangeFuncBound
import Derived.RangeFuncCalls
import Derived.RangeFuncNested
import Derived.Shelf.Abstract
import Derived.Shelf.RegionOpen
set_option maxRecDepth 100000
set_option maxHeartbeats 16000000
namespace Go.Proofs.YteamhbohgoclgaaGreatDoor
open Go.RowKit

def Quiet (w : World) (v : Value) (e : Ending) (w' : World) : Prop := e = .returned v /\ ∃ n, w' = w.drewN n
def eqL : List Int -> List Int -> Bool
 | [], [] => true
 | x :: r, y :: s => x == y && eqL r s
 | _, _ => false
theorem eqL_iff (xs ys : List Int) : eqL xs ys = true ↔ xs = ys := by
 induction xs generalizing ys with
 | nil => cases ys <;> simp [eqL]
 | cons x r ih => cases ys <;> simp [eqL, ih]
theorem eqL_len {xs ys : List Int} (h : xs.length ≠ ys.length) : eqL xs ys = false := by
 rw [Bool.eq_false_iff]; intro e; exact h (congrArg List.length ((eqL_iff _ _).1 e))

theorem EqualD_any (va vb : Value) (xs ys : List Int) (w : World) (ha : RI w va xs) (hb : RI w vb ys) :
   Calls Tryz.prog 22 #[va, vb] w (Quiet w (.bool (eqL xs ys))) := by
 obtain ⟨A, c, rfl, hlc, hc, hcell⟩ := ha.open_
 obtain ⟨A', c', rfl, hlc', hc', hcell'⟩ := hb.open_
 have HA := Hd hcell
 have HB := Hd hcell'
 clear hcell hcell' ha hb
 by_cases hl : xs.length = ys.length
 · have hl' : ((xs.length : Int) != ys.length) = false := by simp [hl]
   have HL := Hd hl
   clear hl
   go_enter Tryz.func22, Tryz.ntmps22
   go_wp2
   go_loopw [13] (fun i wr => ∃ k m : Nat, k <= xs.length /\ i = .int .i64 k /\ Hid (eqL (xs.drop k) (ys.drop k) = eqL xs ys) /\ wr = w.drewN m) (fun i _ => xs.length - (intOf i).toNat)
   case atStart => exact ⟨0, 0, Nat.zero_le _, rfl, rfl, rfl⟩
   case round =>
     obtain ⟨k, m, hk, rfl, he, rfl⟩ := hrel
     by_cases hlt : k < xs.length
     · obtain ⟨ad, z, rfl, _, hz, hcl⟩ := HA.out k hlt
       have hlt' : k < ys.length := by have := HL.out; omega
       obtain ⟨ad', z', rfl, _, hz', hcl'⟩ := HB.out k hlt'
       have HD := Hd (drop_at hz)
       have HD' := Hd (drop_at hz')
       clear HA HB
       go_wp2_with fail
       go_quiet (fail)
       go_wp2
       · have hne : z ≠ z' := by have : (z != z') = true := by assumption
                                 simpa using this
         go_ret
         refine ⟨ret_b ?_, m + nq, by simp⟩
         rw [<- he.out, HD.out, HD'.out]
         simp [eqL, hne]
       · have heq : z = z' := by have : (z != z') = false := by assumption
                                 simpa using this
         go_roundw
         case rel => exact ⟨k + 1, m + nq, by omega, by go_num, by show _ = _; rw [<- he.out, HD.out, HD'.out]; simp [eqL, heq], by simp⟩
         case measure => simp [intOf]; omega
     · go_wp2
       go_ret
       refine ⟨ret_b ?_, m, rfl⟩
       rw [<- he.out, List.drop_of_length_le (by omega), List.drop_of_length_le (by have := HL.out; omega)]; rfl
 · have hl' : ((xs.length : Int) != ys.length) = true := by simp; omega
   have HL := Hd hl
   clear hl
   go_enter Tryz.func22, Tryz.ntmps22
   go_wp2
   go_ret
   exact ⟨ret_b (eqL_len HL.out).symm, 0, rfl⟩

theorem CloneD_any (va : Value) (xs : List Int) (w : World) (ha : RI w va xs) (hl : xs.length <= 17592186044415 := by omega) :
   Calls Tryz.prog 115 #[va] w fun e w' => ∃ v, e = .returned v /\ OI w' w.heap.size v xs /\ Below w.heap.size w w' := by
 obtain ⟨A, c, rfl, hlc, hc, hcell⟩ := ha.open_
 obtain ⟨i0, hi, hz0, hz1, hz2⟩ := info_parts int_info
 have hq := fun W : World => Lib.run_eql_slice_nil (P := Tryz.prog) W 38 3 A xs.length c 0 0 Tryz.underlying38
 have HRA := Hd ha
 rcases A with _ | ad
 · have hn : xs.length = 0 := by
     rcases Nat.eq_zero_or_pos xs.length with h | h
     · exact h
     · obtain ⟨ad, z, h, _⟩ := hcell 0 h; cases h
   have HN := Hd (List.eq_nil_of_length_eq_zero hn)
   simp only [Option.isNone_none] at hq
   clear hcell ha hn
   go_enter Tryz.func115, Tryz.ntmps115
   go_wp2
   refine bodyPost_ret (results_tmp rfl _ _ _) rfl ⟨.slice none 0 0, rfl, ?_, Below.refl _ _⟩
   rw [HN.out]; exact OI.nil_ _ _
 · simp only [Option.isNone_some] at hq
   have hr1 := Hd (ha.below (below_alloc w (.cells #[] 3)))
   have ho := Hd (show OV (w.alloc (.cells #[] 3)) w.heap.size 3 (.slice (some ⟨w.heap.size, 0, none⟩) 0 0) [] from
     ⟨World.ownsRow_made w #[] 0 (Nat.le_refl _) (by unfold maxLen; omega) (by simp), by simp⟩)
   have HX := Hd (ints_one xs)
   clear hcell ha
   go_enter Tryz.func115, Tryz.ntmps115
   go_wp2_with (at_builtin; refine wpList_appendV _ rfl _ _ _ rfl 3 i0 _ 8 Tryz.underlying38 hi hz0 hz1 hz2 rfl w.heap.size _ [] rfl ho.out _ _ rfl hr1.out HX.out (by simpa using hl) (by simp; omega) (by simp) ?_; intro v1 w1 hown1 hg1 hat1)
   refine bodyPost_ret (results_tmp rfl _ _ _) rfl ⟨v1, rfl, by simpa [OI] using hown1, ?_⟩
   exact below_own (below_alloc w _) (by simp) ho.out hg1
def CloB (P : Program) (w : World) (fv : Value) (D : Int -> Prop) (p : Int -> Bool) : Prop :=
 ∃ fn caps, fv = .func (.func fn) #[] caps /\ (∀ args W, (callFunc fn args).run P W = .ok (.enter fn args) W) /\ ∀ W, Below w.heap.size w W -> ∀ x, D x -> Calls P fn (#[.int .i64 x] ++ caps) W fun e w' => e = .returned (.bool (p x)) /\ W = w'

def addAt (d : List Int) (i : Nat) (x : Int) : List Int := d.set i (d.getD i 0 + x)
theorem addAt_len (d : List Int) (i : Nat) (x : Int) : (addAt d i x).length = d.length := by simp [addAt]
theorem addAt_get {d : List Int} {i : Nat} (x : Int) (hi : i < d.length) (j : Nat) : (addAt d i x).getD j 0 = d.getD j 0 + if i = j then x else 0 := by
 unfold addAt
 rw [List.getD_eq_getElem?_getD, List.getElem?_set]
 by_cases e : i = j
 · subst e; rw [if_pos rfl, if_pos hi, if_pos rfl]; rfl
 · rw [if_neg e, if_neg e, List.getD_eq_getElem?_getD]; simp
def Bd (B : Int) (d : List Int) : Prop := ∀ j, -B <= d.getD j 0 /\ d.getD j 0 <= B
theorem Bd.mono {B B' : Int} {d : List Int} (h : Bd B d) (hB : B <= B') : Bd B' d := fun j => by have := h j; omega
theorem addAt_bd {B F x : Int} {d : List Int} {i : Nat} (h : Bd B d) (hi : i < d.length) (hx : -F <= x /\ x <= F) : Bd (B + F) (addAt d i x) := fun j => by
 rw [addAt_get x hi]
 have := h j
 split <;> omega
theorem mul_abs {x y X Y : Int} (hx : -X <= x) (hx' : x <= X) (hy : -Y <= y) (hy' : y <= Y) : -(X * Y) <= x * y /\ x * y <= X * Y := by
 have a1 : (X - x) * (Y + y) >= 0 := Int.mul_nonneg (by omega) (by omega)
 have a2 : (X + x) * (Y - y) >= 0 := Int.mul_nonneg (by omega) (by omega)
 have a3 : (X - x) * (Y - y) >= 0 := Int.mul_nonneg (by omega) (by omega)
 have a4 : (X + x) * (Y + y) >= 0 := Int.mul_nonneg (by omega) (by omega)
 simp only [Int.sub_mul, Int.add_mul, Int.mul_add, Int.mul_sub] at a1 a2 a3 a4
 generalize x * y = p at *
 generalize X * Y = q at *
 generalize x * Y = r at *
 generalize X * y = s at *
 omega

theorem asc_len {l : List Int} {lo hi : Int} (h : l.Pairwise (· < ·)) (hb : ∀ x ∈ l, lo <= x /\ x < hi) (hl : lo <= hi) : (l.length : Int) <= hi - lo := by
 induction l generalizing lo with
 | nil => simp; omega
 | cons x r ih =>
   have hx := hb x (List.mem_cons_self ..)
   have h' := List.pairwise_cons.1 h
   have := ih (lo := x + 1) h'.2 (fun y hy => by have := h'.1 y hy; have := hb y (List.mem_cons_of_mem _ hy); omega) (by omega)
   simp only [List.length_cons]; push_cast; omega
theorem edges_len {n : Nat} {es : List Tri} (h : Edges n es) (hn : n <= 12) : es.length <= 144 := by
 have := asc_len (l := es.map fun t => t.1 * 12 + t.2.1) (lo := 0) (hi := 144) (by
   rw [List.pairwise_map]
   refine List.Pairwise.imp_of_mem (fun {a b} ha hb hab => ?_) h.ord
   have h1 := h.lo a ha
   have h2 := h.lo b hb
   unfold LexLt at hab
   omega) (fun x hx => by
   obtain ⟨t, ht, rfl⟩ := List.mem_map.1 hx
   have := h.lo t ht
   omega) (by omega)
 simp at this
 omega

def linksL (es : List Tri) (v : Nat) : List (Int × Int) := es.filterMap fun t : Tri => if t.1 ≠ t.2.1 /\ (t.1 = (v : Int) \/ t.2.1 = (v : Int)) then some (t.1 + t.2.1 - (v : Int), t.2.2) else none
theorem linksL_cons (t : Tri) (r : List Tri) (v : Nat) : linksL (t :: r) v = if t.1 ≠ t.2.1 /\ (t.1 = (v : Int) \/ t.2.1 = (v : Int)) then (t.1 + t.2.1 - (v : Int), t.2.2) :: linksL r v else linksL r v := by
 unfold linksL
 rw [List.filterMap_cons]
 split
 · next h => split at h
             · cases h
             · next h' => rw [if_neg h']
 · next h => split at h
             · next h' => rw [if_pos h']; cases h; rfl
             · cases h
def sumP (p : Nat -> Bool) : List (Int × Int) -> Int
 | [] => 0
 | x :: r => (if p x.1.toNat = true then x.2 else 0) + sumP p r
theorem sumP_links (p : Nat -> Bool) (es : List Tri) (v : Nat) : sumP p (linksL es v) = joinE es p v := by
 induction es with
 | nil => rfl
 | cons t r ih =>
   rw [linksL_cons]
   simp only [joinE, joinT1]
   by_cases h : t.1 ≠ t.2.1 /\ (t.1 = (v : Int) \/ t.2.1 = (v : Int))
   · rw [if_pos h]
     simp only [sumP, ih]
     by_cases c : p (t.1 + t.2.1 - v).toNat = true
     · rw [if_pos c, if_pos ⟨h.1, h.2, c⟩]
     · rw [if_neg c, if_neg fun hh => c hh.2.2]
   · rw [if_neg h, ih, if_neg fun hh => h ⟨hh.1, hh.2.1⟩]; omega
theorem sumP_snoc (p : Nat -> Bool) (l : List (Int × Int)) (x : Int × Int) : sumP p (l ++ [x]) = sumP p l + if p x.1.toNat = true then x.2 else 0 := by
 induction l with
 | nil => simp [sumP]
 | cons y r ih => simp only [List.cons_append, sumP, ih]; omega
theorem links_mem {n : Nat} {es : List Tri} (h : Edges n es) {v : Nat} (hv : v < n) {x : Int × Int} (hx : x ∈ linksL es v) : 0 <= x.1 /\ x.1 < n /\ x.1 ≠ v /\ 1 <= x.2 /\ x.2 <= 50 := by
 unfold linksL at hx
 obtain ⟨t, ht, he⟩ := List.mem_filterMap.1 hx
 have h1 := h.lo t ht
 have h2 := h.mult t ht
 split at he
 · next hh =>
   obtain rfl := Option.some.inj he
   simp only
   omega
 · cases he
theorem links_len (es : List Tri) (v : Nat) : (linksL es v).length <= es.length := List.length_filterMap_le _ _
def fireI (v : Nat) (k : Int) (l : List (Int × Int)) (d : List Int) : List Int := l.foldl (fun d x => addAt (addAt d v (-(x.2 * k))) x.1.toNat (x.2 * k)) d
theorem fireI_len (v : Nat) (k : Int) (l : List (Int × Int)) (d : List Int) : (fireI v k l d).length = d.length := by
 induction l generalizing d with
 | nil => rfl
 | cons x r ih => exact (ih _).trans (by rw [addAt_len, addAt_len])
theorem fireI_snoc (v : Nat) (k : Int) (l : List (Int × Int)) (x : Int × Int) (d : List Int) : fireI v k (l ++ [x]) d = addAt (addAt (fireI v k l d) v (-(x.2 * k))) x.1.toNat (x.2 * k) := by simp [fireI]
theorem fireI_get {n : Nat} {es : List Tri} {d : List Int} (h : Ends n es) (hd : d.length = n) {v : Nat} (hv : v < n) (k : Int) (x : Nat) :
   (fireI v k (linksL es v) d).getD x 0 = d.getD x 0 - lapE es (fun u => if u = v then k else 0) x := by
 induction es generalizing d with
 | nil => simp [linksL, fireI, lapE]
 | cons t r ih =>
   have ht := h t (List.mem_cons_self ..)
   rw [linksL_cons]
   simp only [lapE]
   by_cases c : t.1 ≠ t.2.1 /\ (t.1 = (v : Int) \/ t.2.1 = (v : Int))
   · rw [if_pos c]
     have h1 := ih (d := addAt (addAt d v (-(t.2.2 * k))) (t.1 + t.2.1 - v).toNat (t.2.2 * k)) h.tail (by rw [addAt_len, addAt_len]; exact hd)
     show (fireI v k (linksL r v) (addAt (addAt d v (-(t.2.2 * k))) (t.1 + t.2.1 - v).toNat (t.2.2 * k))).getD x 0 = _
     rw [h1, addAt_get _ (by rw [addAt_len]; omega), addAt_get _ (by omega)]
     unfold lapT1
     dsimp only
     rw [if_neg c.1]
     by_cases a : t.1 = x
     · rw [if_pos a]
       by_cases e : v = x
       · subst e
         rw [if_pos rfl, if_neg (by omega), if_pos rfl, if_neg (by omega), Int.sub_zero]; omega
       · have e2 : t.2.1 = v := by omega
         rw [if_neg e, if_pos (by omega), if_neg (fun h => e h.symm), if_pos (by omega)]
         have : t.2.2 * (0 - k) = -(t.2.2 * k) := by rw [Int.zero_sub, Int.mul_neg]
         omega
     · rw [if_neg a]
       by_cases b : t.2.1 = x
       · rw [if_pos b]
         by_cases e : v = x
         · subst e
           rw [if_pos rfl, if_neg (by omega), if_pos rfl, if_neg (by omega), Int.sub_zero]; omega
         · have e2 : t.1 = v := by omega
           rw [if_neg e, if_pos (by omega), if_neg (fun h => e h.symm), if_pos (by omega)]
           have : t.2.2 * (0 - k) = -(t.2.2 * k) := by rw [Int.zero_sub, Int.mul_neg]
           omega
       · rw [if_neg b, if_neg (by omega), if_neg (by omega)]; omega
   · rw [if_neg c, ih h.tail hd]
     have : lapT1 t (fun u => if u = v then k else 0) x = 0 := by
       unfold lapT1
       dsimp only
       by_cases e : t.1 = t.2.1
       · rw [if_pos e]
       · rw [if_neg e]
         have e1 : t.1.toNat ≠ v := by intro hh; exact c ⟨e, .inl (by omega)⟩
         have e2 : t.2.1.toNat ≠ v := by intro hh; exact c ⟨e, .inr (by omega)⟩
         by_cases a : t.1 = x
         · rw [if_pos a, if_neg (by omega), if_neg e2]; simp
         · rw [if_neg a]
           by_cases b : t.2.1 = x
           · rw [if_pos b, if_neg (by omega), if_neg e1]; simp
           · rw [if_neg b]
     omega
theorem fireI_bd {v : Nat} {k K B : Int} {l : List (Int × Int)} {d : List Int} (hv : v < d.length) (hl : ∀ x ∈ l, x.1.toNat < d.length /\ 1 <= x.2 /\ x.2 <= 50) (hk : -K <= k /\ k <= K) (hb : Bd B d) : Bd (B + l.length * (100 * K)) (fireI v k l d) := by
 induction l generalizing d B with
 | nil => simpa [fireI] using hb
 | cons x r ih =>
   have hx := hl x (List.mem_cons_self ..)
   have hm := mul_abs (x := x.2) (y := k) (X := 50) (Y := K) (by omega) (by omega) hk.1 hk.2
   have h1 := addAt_bd (F := 50 * K) (x := -(x.2 * k)) hb hv (by omega)
   have h2 := addAt_bd (F := 50 * K) (x := x.2 * k) h1 (i := x.1.toNat) (by rw [addAt_len]; exact hx.1) (by omega)
   have h3 := ih (d := addAt (addAt d v (-(x.2 * k))) x.1.toNat (x.2 * k)) (by rw [addAt_len, addAt_len]; exact hv) (fun y hy => by rw [addAt_len, addAt_len]; exact hl y (List.mem_cons_of_mem _ hy)) h2
   refine Bd.mono h3 ?_
   simp only [List.length_cons]
   push_cast
   rw [Int.add_mul]
   omega
theorem lapE_add (es : List Tri) (s t : Nat -> Int) (v : Nat) : lapE es (fun u => s u + t u) v = lapE es s v + lapE es t v := by
 induction es with
 | nil => rfl
 | cons x r ih =>
   simp only [lapE, ih]
   have : lapT1 x (fun u => s u + t u) v = lapT1 x s v + lapT1 x t v := by
     unfold lapT1
     dsimp only
     repeat' split
     all_goals first | rfl | (rw [<- Int.mul_add]; congr 1; omega)
   omega
theorem lapE_congr {n : Nat} {es : List Tri} (h : Ends n es) {s t : Nat -> Int} {v : Nat} (hv : v < n) (he : ∀ u, u < n -> s u = t u) : lapE es s v = lapE es t v := by
 rw [<- lap_edges h, <- lap_edges h]; exact lap_congr hv he
def fireS (ins : List Bool) (k : Int) (es : List Tri) : Nat -> List Int -> List Int
 | 0, d => d
 | m + 1, d => if ins.getD m false = true then fireI m k (linksL es m) (fireS ins k es m d) else fireS ins k es m d
theorem fireS_len (ins : List Bool) (k : Int) (es : List Tri) (m : Nat) (d : List Int) : (fireS ins k es m d).length = d.length := by
 induction m with
 | zero => rfl
 | succ m ih => simp only [fireS]; split
                · rw [fireI_len, ih]
                · exact ih
theorem fireS_get {n : Nat} {es : List Tri} {d : List Int} (h : Ends n es) (hd : d.length = n) (ins : List Bool) (k : Int) {m : Nat} (hm : m <= n) {x : Nat} (hx : x < n) :
   (fireS ins k es m d).getD x 0 = d.getD x 0 - lapE es (fun u => if u < m /\ ins.getD u false = true then k else 0) x := by
 induction m with
 | zero =>
   have : lapE es (fun u => if u < 0 /\ ins.getD u false = true then k else 0) x = lapE es (fun _ => 0) x := lapE_congr h hx fun u _ => by rw [if_neg (by omega)]
   have z : ∀ es : List Tri, lapE es (fun _ => 0) x = 0 := fun es => by
     induction es with
     | nil => rfl
     | cons t r ih => simp only [lapE, ih, lapT1]; split <;> (try split) <;> (try split) <;> simp
   rw [this, z]; simp [fireS]
 | succ m ih =>
   have ih := ih (by omega)
   simp only [fireS]
   by_cases c : ins.getD m false = true
   · rw [if_pos c, fireI_get h (by rw [fireS_len]; exact hd) (by omega), ih]
     have := lapE_add es (fun u => if u < m /\ ins.getD u false = true then k else 0) (fun u => if u = m then k else 0) x
     have e : lapE es (fun u => if u < m + 1 /\ ins.getD u false = true then k else 0) x = lapE es (fun u => (if u < m /\ ins.getD u false = true then k else 0) + if u = m then k else 0) x := lapE_congr h hx fun u _ => by
       by_cases e : u = m
       · subst e; rw [if_pos ⟨by omega, c⟩, if_neg (by omega), if_pos rfl]; omega
       · rw [if_neg e]
         by_cases e2 : u < m /\ ins.getD u false = true
         · rw [if_pos ⟨by omega, e2.2⟩, if_pos e2]; omega
         · rw [if_neg e2, if_neg fun hh => e2 ⟨by omega, hh.2⟩]; rfl
     rw [e, this]; omega
   · rw [if_neg c, ih]
     congr 1
     exact lapE_congr h hx fun u _ => by
       by_cases e : u = m
       · subst e; rw [if_neg (by omega), if_neg fun hh => c hh.2]
       · by_cases e2 : u < m /\ ins.getD u false = true
         · rw [if_pos e2, if_pos ⟨by omega, e2.2⟩]
         · rw [if_neg e2, if_neg fun hh => e2 ⟨by omega, hh.2⟩]
theorem fireS_bd {n : Nat} {es : List Tri} {d : List Int} {ins : List Bool} {k K B : Int} (h : Edges n es) (hd : d.length = n) (hn : n <= 12) (hK : 0 <= K) (hk : -K <= k /\ k <= K) (hb : Bd B d) {m : Nat} (hm : m <= n) : Bd (B + m * (14400 * K)) (fireS ins k es m d) := by
 induction m with
 | zero => simpa [fireS] using hb
 | succ m ih =>
   have ih := ih (by omega)
   have hl := edges_len h hn
   simp only [fireS]
   push_cast
   rw [Int.add_mul]
   split
   · have := fireI_bd (v := m) (k := k) (K := K) (l := linksL es m) (d := fireS ins k es m d) (by rw [fireS_len]; omega) (fun x hx => by have := links_mem h (by omega) hx; rw [fireS_len]; omega) hk ih
     refine Bd.mono this ?_
     have h2 := links_len es m
     have h3 : (100 * K) * ((linksL es m).length : Int) <= (100 * K) * 144 := Int.mul_le_mul_of_nonneg_left (by omega) (by omega)
     rw [Int.mul_comm ((linksL es m).length : Int)]
     omega
   · exact Bd.mono ih (by omega)

def vertE (n : Int) : Int := if n < 1 \/ 12 < n then 2 else 0
def checkE (zs : List Int) (n : Int) : Int := if n < 1 \/ 12 < n then 2 else if (zs.length : Int) ≠ n then 8 else if zs.all InB then 0 else 2
theorem within_any (k : Int) (w : World) : Calls Tryz.prog 99 #[.int .i64 k] w fun e w' => e = .returned (.bool (InB k)) /\ w = w' := by
 go_enter Tryz.func99, Tryz.ntmps99
 go_wp2
 all_goals (go_ret; exact ⟨by simp [InB, *]; try omega, rfl⟩)
theorem vertices_any (n : Int) (w : World) : Calls Tryz.prog 98 #[.int .i64 n] w fun e w' => e = .returned (.int .i64 (vertE n)) /\ w = w' := by
 by_cases h1 : n < 1
 · go_enter Tryz.func98, Tryz.ntmps98
   go_wp2
   go_ret
   exact ⟨by simp [vertE, h1], rfl⟩
 · by_cases h2 : n > 12
   · go_enter Tryz.func98, Tryz.ntmps98
     go_wp2
     go_ret
     exact ⟨by simp [vertE, h2], rfl⟩
   · go_enter Tryz.func98, Tryz.ntmps98
     go_wp2
     go_ret
     exact ⟨by simp [vertE, h1, h2], rfl⟩

theorem check_any (v : Value) (zs : List Int) (n : Int) (w : World) (hv : RI w v zs) :
   Calls Tryz.prog 65 #[v, .int .i64 n] w fun e w' => e = .returned (.int .i64 (checkE zs n)) /\ w = w' := by
 obtain ⟨A, c, rfl, hlc, hc, hcell⟩ := hv.open_
 by_cases h1 : n < 1 \/ 12 < n
 · have e1 : (vertE n != 0) = true := by simp [vertE, h1]
   have H1 := Hd h1
   clear h1
   go_enter Tryz.func65, Tryz.ntmps65
   go_wp2_with (go_at_call 98; refine (vertices_any _ _).mono ?_; rintro e w' ⟨rfl, rfl⟩)
   go_ret
   exact ⟨by simp [vertE, checkE, H1.out], rfl⟩
 · have e1 : vertE n = 0 := by simp [vertE, h1]
   by_cases h2 : (zs.length : Int) = n
   · have e2 : ((zs.length : Int) != n) = false := by simp [h2]
     have H1 := Hd h1
     have H2 := Hd h2
     have HC := Hd hcell
     clear h1 h2 hcell
     go_enter Tryz.func65, Tryz.ntmps65
     go_wp2_with (go_at_call 98; refine (vertices_any _ _).mono ?_; rintro e w' ⟨rfl, rfl⟩)
     go_loop [19] (fun i => ∃ k : Nat, k <= zs.length /\ i = .int .i64 k /\ Hid ((zs.drop k).all InB = zs.all InB)) (fun i => zs.length - (intOf i).toNat)
     case atStart => exact ⟨0, Nat.zero_le _, rfl, rfl⟩
     case round =>
       obtain ⟨k, hk, rfl, hr⟩ := hrel
       by_cases hlt : k < zs.length
       · obtain ⟨ad, z, rfl, _, hz, hcl⟩ := HC.out k hlt
         clear HC hv
         have hd := Hd (drop_at hz)
         cases hb : InB z
         · go_wp2_with (go_at_call 99; refine (within_any _ _).mono ?_; rintro e w' ⟨rfl, rfl⟩)
           go_ret
           refine ⟨?_, rfl⟩
           have := hr.out; rw [hd.out] at this
           simp only [checkE, if_neg H1.out, H2.out, <- this]
           simp [hb]
         · go_wp2_with (go_at_call 99; refine (within_any _ _).mono ?_; rintro e w' ⟨rfl, rfl⟩)
           go_round
           case rel => exact ⟨k + 1, by omega, by go_num, by have := hr.out; rw [hd.out] at this; simpa [Hid, hb] using this⟩
           case measure => simp [intOf]; omega
       · go_wp2
         go_ret
         refine ⟨?_, rfl⟩
         have := hr.out; rw [List.drop_of_length_le (by omega)] at this
         simp only [checkE, if_neg H1.out, H2.out, <- this]
         simp
   · have e2 : ((zs.length : Int) != n) = true := by simp [h2]
     have H1 := Hd h1
     have H2 := Hd h2
     clear h1 h2
     go_enter Tryz.func65, Tryz.ntmps65
     go_wp2_with (go_at_call 98; refine (vertices_any _ _).mono ?_; rintro e w' ⟨rfl, rfl⟩)
     go_ret
     exact ⟨by simp [checkE, H1.out, H2.out], rfl⟩
open Go.RowKit Go.Shelf

theorem getD_tri {es : List Tri} {k : Nat} {t : Tri} (h : Hid (es[k]? = some t)) : t ∈ es := List.mem_of_getElem? h.out

theorem checkE_ok {zs : List Int} {n : Int} (h : checkE zs n = 0) : 1 <= n /\ n <= 12 /\ (zs.length : Int) = n /\ zs.all InB = true := by
 unfold checkE at h
 by_cases a : n < 1 \/ 12 < n
 · rw [if_pos a] at h; cases h
 · rw [if_neg a] at h
   by_cases b : (zs.length : Int) ≠ n
   · rw [if_pos b] at h; cases h
   · rw [if_neg b] at h
     cases c : zs.all InB
     · simp [c] at h
     · exact ⟨by omega, by omega, by omega, rfl⟩

theorem wpListIn_appendV {F : Fence} {n : Nat} {P : Program} (w : World) {ops : Array Oper} {rest : List Oper} {o : Oper} {a : Act} {Q : Exit -> Act -> World -> Prop} (hgd : o.guard = none) (s x : Operand) (t : TypeId)
   (ho : o.op = .call { callee := .builtin .append, args := #[s, x], argTypes := #[t, t] })
   (e : TypeId) (i : TypeInfo) (z : Value) (bytes : Nat) (ht : P.underlying t = some (.slice e)) (hi : P.info? e = some i) (hz : i.zero = some z)
   (hsize : i.size = 1) (hby : i.bytes = bytes) (hzs : z.cells.size = 1) (B : Nat) (v : Value) (us : List Value) (hs : a.eval s = v) (hown : OV w B e v us)
   (vx : Value) (news : List Value) (hx : a.eval x = vx) (hr : RV w vx news)
   (h1 : ∀ u ∈ news, u.oneCell' = true) (hb1 : us.length + news.length <= 17592186044415) (hb2 : (us.length + news.length) * bytes <= 140737488355328) (hB : B <= w.heap.size)
   (h : ∀ v' w', OV w' B e v' (us ++ news) -> w.grownBy w' v.ownBlock -> (v'.ownBlock = v.ownBlock \/ v'.ownBlock = some w.heap.size) -> wpListIn F n P ops Q rest (a.put o.dst v') w') : wpListIn F n P ops Q (o :: rest) a w := by
 refine wpListIn_plain hgd fun K hK' => ?_
 obtain ⟨v', w', hrun, h2, h3, h4⟩ := run_appendV (P := P) w t o.type e i z bytes ht hi hz hsize hby hzs B v us hown vx news hr h1 hb1 hb2 hB
 unfold Oper.wpIn
 refine ⟨?_, ?_⟩
 · simp [Oper.about, ho, resolve, Target.leads, Sem.run_pure]
 · rw [Oper.semAt_plain F _ _ (by rw [ho]; intro c hc'; cases hc')]
   simp [execOp, ho, resolve, invoke, builtin, hs, hx, hrun, Result.andThen]
   exact hK' _ _ (h v' w' h2 h3 h4)
theorem OV.shape {w : World} {B : Nat} {e : TypeId} {v : Value} {us : List Value} (h : OV w B e v us) (hl : 1 <= us.length) : ∃ g cap, v = .slice (some ⟨g, 0, none⟩) us.length cap /\ B <= g /\ g < w.heap.size := by
 rcases h.1.2 with ⟨_, hn⟩ | ⟨g, cap, cur, rfl, hg, hh, _⟩
 · omega
 · exact ⟨g, cap, rfl, hg, lt_of_block hh⟩

def IterC {α : Type} (P : Program) (gf : FuncId) (lb : Array Value) (encs : α -> Array Value) (It : List α -> α -> World -> Prop) (R Kp : World -> World -> Prop) (S Sp : List α -> Prop) (Pre : World -> Prop) : Prop :=
 ∀ (n l : Nat) (J Jx : List α -> World -> Prop) (W : World), Pre W -> (∀ pre A B, J pre A -> R A B -> J pre B) -> (∀ pre A B, Jx pre A -> R A B -> Jx pre B) ->
   (∀ pre x W1, J pre W1 -> It pre x W1 -> YieldAt Fence.wide (n - 1) P l (encs x) W1 fun e W' =>
     (e = .returned (.bool true) /\ J (pre ++ [x]) W' /\ Kp W1 W') \/ (e = .returned (.bool false) /\ Jx (pre ++ [x]) W')) ->
   J [] W ->
   CallsIn Fence.wide n P gf (#[.func (.yield l) #[] #[]] ++ lb) W fun e W' => (∃ v, e = .returned v) /\ ((∃ xs, S xs /\ J xs W') \/ (∃ pre, Sp pre /\ Jx pre W'))

def KeepLD (h : Nat) (W W' : World) : Prop := W'.heap[h]? = W.heap[h]? /\ W'.heap[h + 1]? = W.heap[h + 1]?

def iterPost {α : Type} (h : Nat) (Kp : World -> World -> Prop) (I : List α -> World -> Prop) (Ix : Code -> List α -> World -> Prop) (xs : List α) (W : World) : Exit -> Act -> World -> Prop
 | .normal, _, W' => KeepLD h W W' /\ Kp W W' /\ I xs W'
 | .ret, _, W' => KeepLD h W W' /\ Ix .ret xs W'
 | .exit id, _, W' => KeepLD h W W' /\ Ix (.exit id) xs W'
 | .goto t, _, W' => KeepLD h W W' /\ Ix (.goto t) xs W'
 | .panic _, _, _ => False
 | .outgrown, _, _ => False

variable {P : Program}
theorem wpIn_rangeFunc_iter {α : Type} {g : Operand} {ps : Array Tmp} {assign body : Code} {Q : Exit -> Act -> World -> Prop} {a : Act} {w : World} {n : Nat}
   {gf : Nat} {lb : Array Value} (hg : a.eval g = .func (.func gf) #[] lb) (eg : ∀ args w, (callFunc gf args).run P w = .ok (.enter gf args) w)
   {encs : α -> Array Value} {It : List α -> α -> World -> Prop} {R Kp : World -> World -> Prop} {S Sp : List α -> Prop} {Pre : World -> Prop}
   (hseq : IterC P gf lb encs It R Kp S Sp Pre) (hps : ∀ x, (encs x).size = ps.size)
   (hR : ∀ A B, R A B -> A.heap.size >= w.heap.size + 2 -> KeepLD w.heap.size A B)
   (hKt : ∀ A B C, Kp A B -> Kp B C -> Kp A C) (hKp : ∀ (W : World) (r : Loop) (o : Obj), W.heap[w.heap.size + 1]? = some (.loop r) -> Kp W (W.putObj (w.heap.size + 1) o))
   (hIt : ∀ pre x (W : World) (r : Loop) (o : Obj), It pre x W -> W.heap[w.heap.size + 1]? = some (.loop r) -> It pre x (W.putObj (w.heap.size + 1) o))
   (I : List α -> World -> Prop) (Ix : Code -> List α -> World -> Prop)
   (hI : ∀ pre (W : World) (r : Loop) (o : Obj), I pre W -> W.heap[w.heap.size + 1]? = some (.loop r) -> I pre (W.putObj (w.heap.size + 1) o))
   (hIx : ∀ c pre (W : World) (r : Loop) (o : Obj), Ix c pre W -> W.heap[w.heap.size + 1]? = some (.loop r) -> Ix c pre (W.putObj (w.heap.size + 1) o))
   (hIR : ∀ pre A B, I pre A -> R A B -> I pre B) (hIxR : ∀ c pre A B, Ix c pre A -> R A B -> Ix c pre B)
   (hpre : ∀ r, Pre ((w.alloc (.deferred (some []))).alloc (.loop r))) (h0 : ∀ r, I [] ((w.alloc (.deferred (some []))).alloc (.loop r))) (a₁ : α -> Act)
   (hassign : ∀ (l : Nat) (x : α) (W : World) (K : Act -> World -> Prop), K (a₁ x) W ->
     assign.wpIn (Fence.wide.inRound l) (n - 1 - 1) P (Exit.then K (fun _ _ _ => False)) { tmps := (ps.zip (encs x)).foldl (fun t (p, v) => t.setIfInBounds p v) a.tmps, defers := [] } W)
   (hbody : ∀ (l : Nat) (pre : List α) (x : α) (W : World) (r : Loop), I pre W -> It pre x W -> W.heap[w.heap.size + 1]? = some (.loop r) -> W.heap[w.heap.size]? = some (.deferred (some [])) ->
     body.wpIn (Fence.wide.inRound l) (n - 1 - 1) P (iterPost w.heap.size Kp I Ix (pre ++ [x]) W) (a₁ x) W)
   (hdone : ∀ (xs : List α) (W : World), S xs -> I xs W -> W.heap[w.heap.size]? = some (.deferred (some [])) -> Q .normal { a with defers := { target := .collected w.heap.size, args := #[] } :: a.defers } W)
   (hstop : ∀ (c : Code) (pre : List α) (W : World), Sp pre -> Ix c pre W -> W.heap[w.heap.size]? = some (.deferred (some [])) -> c.wpIn Fence.wide n P Q { a with defers := { target := .collected w.heap.size, args := #[] } :: a.defers } W) :
   (Code.rangeFunc g ps assign body).wpIn Fence.wide n P Q a w := by
 refine wpIn_rangeFunc ?_
 intro fn _
 obtain ⟨rec, hrec⟩ : ∃ rec : LoopState -> Option Code -> Loop, rec = fun st pe => { state := st, pending := pe, fn, tmps := a.tmps, params := ps, assign, body, defers := w.heap.size } := ⟨_, rfl⟩
 obtain ⟨W1, hW1⟩ : ∃ W1, (w.alloc (.deferred (some []))).alloc (.loop (rec .ready none)) = W1 := ⟨_, rfl⟩
 have hL1 : W1.heap[w.heap.size + 1]? = some (.loop (rec .ready none)) := by
   rw [<- hW1]; have := World.alloc_heap_new (w.alloc (.deferred (some []))) (.loop (rec .ready none)); rwa [World.size_alloc] at this
 have hK1 : W1.heap[w.heap.size]? = some (.deferred (some [])) := by
   rw [<- hW1]; exact (Below.heap_alloc _ _ _ (by simp)).trans (World.alloc_heap_new w _)
 refine ⟨w.heap.size + 1, [{ target := .collected w.heap.size, args := #[] }], W1, { target := .fn (.func gf) lb, args := #[.func (.yield (w.heap.size + 1)) #[] #[]] }, W1, gf,
   #[.func (.yield (w.heap.size + 1)) #[] #[]] ++ lb, W1, ?_, ?_, ?_, ?_, ?_, ?_⟩
 · rw [<- hW1, hrec]; exact run_enterLoop_outer _ _ _ _ _
 · simp only [resolve, hg]
   simp [go_sem]
 · intro f' _; trivial
 · simp [invoke, go_sem, eg]
 · intro h; simp [Fence.wide] at h
 · refine (hseq (n - 1) (w.heap.size + 1)
     (fun pre W => I pre W /\ W.heap[w.heap.size + 1]? = some (.loop (rec .ready none)) /\ W.heap[w.heap.size]? = some (.deferred (some [])))
     (fun pre W => ∃ c, Ix c pre W /\ W.heap[w.heap.size + 1]? = some (.loop (rec .done (some c))) /\ W.heap[w.heap.size]? = some (.deferred (some [])))
     W1 (hW1 ▸ hpre _) ?_ ?_ ?_ ⟨hW1 ▸ h0 _, hL1, hK1⟩).mono ?_
   · rintro pre A B ⟨hi, hl, hk⟩ hr
     have := hR A B hr (by have := (Array.getElem?_eq_some_iff.1 hl).1; omega)
     exact ⟨hIR _ _ _ hi hr, this.2.trans hl, this.1.trans hk⟩
   · rintro pre A B ⟨c, hi, hl, hk⟩ hr
     have := hR A B hr (by have := (Array.getElem?_eq_some_iff.1 hl).1; omega)
     exact ⟨c, hIxR _ _ _ _ hi hr, this.2.trans hl, this.1.trans hk⟩
   · rintro pre x W ⟨hi, hl, hk⟩ hit
     have hlt : w.heap.size + 1 < W.heap.size := (Array.getElem?_eq_some_iff.1 hl).1
     have hy := run_yield (P := P) (args := encs x) hl (by rw [hrec]; exact hps x)
     rw [hrec] at hy
     refine ⟨fn, _, assign, body, hy, roundIn_of_wpIn trivial (hassign _ x W _ ⟨_, run_beginRound hl (by rw [hrec]), ?_⟩)⟩
     have hl2 : (W.putObj (w.heap.size + 1) (.loop { rec .ready none with state := .busy })).heap[w.heap.size + 1]? = some (.loop { rec .ready none with state := .busy }) := World.putObj_heap_same hlt
     have hk2 : (W.putObj (w.heap.size + 1) (.loop { rec .ready none with state := .busy })).heap[w.heap.size]? = some (.deferred (some [])) := (World.putObj_heap_other (by omega)).trans hk
     have hw2 : Kp W (W.putObj (w.heap.size + 1) (.loop { rec .ready none with state := .busy })) := hKp _ _ _ hl
     refine wpIn_mono (hbody _ pre x _ _ (hI _ _ _ _ hi hl) (hIt _ _ _ _ _ hit hl) hl2 hk2) ?_
     have fin : ∀ (jump : Option Code) (W3 : World), KeepLD w.heap.size (W.putObj (w.heap.size + 1) (.loop { rec .ready none with state := .busy })) W3 ->
         (Instr.endRound (w.heap.size + 1) jump).run P W3 = .ok (.bool jump.isNone) (W3.putObj (w.heap.size + 1) (.loop (rec (if jump.isNone then .ready else .done) jump))) /\
         W3.heap[w.heap.size + 1]? = some (.loop { rec .ready none with state := .busy }) /\
         (W3.putObj (w.heap.size + 1) (.loop (rec (if jump.isNone then .ready else .done) jump))).heap[w.heap.size + 1]? = some (.loop (rec (if jump.isNone then .ready else .done) jump)) /\
         (W3.putObj (w.heap.size + 1) (.loop (rec (if jump.isNone then .ready else .done) jump))).heap[w.heap.size]? = some (.deferred (some [])) := fun jump W3 hk3 => by
       have hl3 := hk3.2.trans hl2
       have := run_endRound (P := P) jump hl3
       rw [hrec] at this ⊢
       exact ⟨this, by rw [hrec] at hl3; exact hl3, World.putObj_heap_same (Array.getElem?_eq_some_iff.1 hl3).1, (World.putObj_heap_other (by omega)).trans (hk3.1.trans hk2)⟩
     rintro e a3 W3 hp
     cases e with
     | normal =>
       obtain ⟨hk3, hkp3, hi3⟩ := hp
       obtain ⟨hr, hl3, hl4, hk4⟩ := fin none W3 hk3
       exact ⟨_, _, hr, .inl ⟨rfl, ⟨hI _ _ _ _ hi3 hl3, hl4, hk4⟩, hKt _ _ _ (hKt _ _ _ hw2 hkp3) (hKp _ _ _ hl3)⟩⟩
     | ret =>
       obtain ⟨hk3, hi3⟩ := hp
       obtain ⟨hr, hl3, hl4, hk4⟩ := fin (some .ret) W3 hk3
       exact ⟨_, _, hr, .inr ⟨rfl, .ret, hIx _ _ _ _ _ hi3 hl3, hl4, hk4⟩⟩
     | exit id =>
       obtain ⟨hk3, hi3⟩ := hp
       obtain ⟨hr, hl3, hl4, hk4⟩ := fin (some (.exit id)) W3 hk3
       exact ⟨_, _, hr, .inr ⟨rfl, .exit id, hIx _ _ _ _ _ hi3 hl3, hl4, hk4⟩⟩
     | goto t =>
       obtain ⟨hk3, hi3⟩ := hp
       obtain ⟨hr, hl3, hl4, hk4⟩ := fin (some (.goto t)) W3 hk3
       exact ⟨_, _, hr, .inr ⟨rfl, .goto t, hIx _ _ _ _ _ hi3 hl3, hl4, hk4⟩⟩
     | panic ch => exact hp.elim
     | outgrown => exact hp.elim
   · rintro e W2 ⟨⟨v, rfl⟩, (⟨xs, hS, hi, hl, hk⟩ | ⟨pre, hSp, c, hi, hl, hk⟩)⟩
     · exact ⟨none, _, by have := run_endLoop (P := P) hl (by rw [hrec]; simp); rw [hrec] at this; exact this, hdone xs _ hS (hI _ _ _ _ hi hl) ((World.putObj_heap_other (by omega)).trans hk)⟩
     · exact ⟨some c, _, by have := run_endLoop (P := P) hl (by rw [hrec]; simp); rw [hrec] at this; exact this, hstop c pre _ hSp (hIx _ _ _ _ _ hi hl) ((World.putObj_heap_other (by omega)).trans hk)⟩
end Go.Proofs.YteamhbohgoclgaaGreatDoor
