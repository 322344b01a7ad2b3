/- Lending along distances. No program in sight. -/
import Derived.Test.YteamhbohgoclgaaGreatDoorR09
set_option maxRecDepth 100000
set_option maxHeartbeats 16000000
namespace Go.Proofs.YteamhbohgoclgaaGreatDoor

def upT (o : List Int) (k : Int) (t : Tri) : Int := if t.1 ≠ t.2.1 /\ (k < o.getD t.1.toNat 0 \/ k < o.getD t.2.1.toNat 0) then t.2.2 else 0
def upW (o : List Int) (k : Int) : List Tri -> Int
 | [] => 0
 | t :: r => upT o k t + upW o k r
theorem upW_le {o : List Int} {k : Int} {es : List Tri} (h : ∀ t ∈ es, 0 <= t.2.2) : 0 <= upW o k es /\ upW o k es <= multS es := by
 induction es with
 | nil => simp [upW, multS]
 | cons t r ih =>
   have h1 := h t (List.mem_cons_self ..)
   have h2 := ih fun s hs => h s (List.mem_cons_of_mem _ hs)
   have : 0 <= upT o k t /\ upT o k t <= t.2.2 := by unfold upT; split <;> omega
   rw [multS_cons]
   simp only [upW]; omega
def Nb (n : Nat) (o : List Int) (t : Tri) : Prop := 0 <= t.1 /\ t.1 < n /\ 0 <= t.2.1 /\ t.2.1 < n /\ 0 <= t.2.2 /\ (t.1 ≠ t.2.1 -> o.getD t.1.toNat 0 <= o.getD t.2.1.toNat 0 + 1 /\ o.getD t.2.1.toNat 0 <= o.getD t.1.toNat 0 + 1)
theorem dist_nb {n q : Nat} {es : List Tri} {o : List Int} (hE : Edges n es) (h : Dist n q es o) : ∀ t ∈ es, Nb n o t := by
 intro t ht
 have hl := hE.lo t ht
 have hm := hE.mult t ht
 refine ⟨by omega, by omega, by omega, by omega, by omega, fun hne => ⟨?_, ?_⟩⟩
 · have := h.near t.2.1.toNat (by omega) (t.1, t.2.2) (List.mem_filterMap.2 ⟨t, ht, by rw [if_pos ⟨hne, .inr (by omega)⟩, show t.1 + t.2.1 - (t.2.1.toNat : Int) = t.1 by omega]⟩)
   exact this
 · have := h.near t.1.toNat (by omega) (t.2.1, t.2.2) (List.mem_filterMap.2 ⟨t, ht, by rw [if_pos ⟨hne, .inl (by omega)⟩, show t.1 + t.2.1 - (t.1.toNat : Int) = t.2.1 by omega]⟩)
   exact this
theorem join_up {n : Nat} {o : List Int} {k : Int} {es : List Tri} {p : Nat -> Bool} {v : Nat} (h : ∀ t ∈ es, Nb n o t) (hp : (o.getD v 0 < k /\ ∀ u, u < n -> p u = true -> k <= o.getD u 0) \/ (k <= o.getD v 0 /\ ∀ u, u < n -> p u = true -> o.getD u 0 < k)) :
   joinE es p v <= upW o (k - 1) es - upW o k es := by
 induction es with
 | nil => simp [joinE, upW]
 | cons t r ih =>
   have h2 := ih fun s hs => h s (List.mem_cons_of_mem _ hs)
   obtain ⟨a1, b1, a2, b2, a3, a4⟩ := h t (List.mem_cons_self ..)
   have key : joinT1 t p v <= upT o (k - 1) t - upT o k t := by
     unfold joinT1 upT
     by_cases e : t.1 = t.2.1
     · rw [if_neg fun hh => hh.1 e, if_neg fun hh => hh.1 e, if_neg fun hh => hh.1 e]; omega
     · have a4 := a4 e
       by_cases c : t.1 ≠ t.2.1 /\ (t.1 = v \/ t.2.1 = v) /\ p (t.1 + t.2.1 - v).toNat = true
       · rw [if_pos c]
         obtain ⟨-, hv, hu⟩ := c
         rcases hv with hv | hv
         · rw [show t.1 + t.2.1 - (v : Int) = t.2.1 by omega] at hu
           have ev : t.1.toNat = v := by omega
           rw [ev] at a4 ⊢
           rcases hp with ⟨h1, hp⟩ | ⟨h1, hp⟩
           · have := hp _ (by omega) hu
             rw [if_pos ⟨e, by omega⟩, if_neg fun hh => by omega]; omega
           · have := hp _ (by omega) hu
             rw [if_pos ⟨e, by omega⟩, if_neg fun hh => by omega]; omega
         · rw [show t.1 + t.2.1 - (v : Int) = t.1 by omega] at hu
           have ev : t.2.1.toNat = v := by omega
           rw [ev] at a4 ⊢
           rcases hp with ⟨h1, hp⟩ | ⟨h1, hp⟩
           · have := hp _ (by omega) hu
             rw [if_pos ⟨e, by omega⟩, if_neg fun hh => by omega]; omega
           · have := hp _ (by omega) hu
             rw [if_pos ⟨e, by omega⟩, if_neg fun hh => by omega]; omega
       · rw [if_neg c]
         by_cases c2 : t.1 ≠ t.2.1 /\ (k < o.getD t.1.toNat 0 \/ k < o.getD t.2.1.toNat 0)
         · rw [if_pos c2, if_pos ⟨e, by omega⟩]; omega
         · rw [if_neg c2]; split <;> omega
   simp only [joinE, upW]; omega
def pw2 (m : Nat) : Int := 100 * ((2 ^ m : Nat) : Int)
theorem pw2_pos (m : Nat) : 100 <= pw2 m := by
 unfold pw2
 have := Nat.one_le_two_pow (n := m)
 omega
theorem pw2_mono {a b : Nat} (h : a <= b) : pw2 a <= pw2 b := by
 unfold pw2
 have := Nat.pow_le_pow_right (show 0 < 2 by omega) h
 omega
theorem pw2_add (a c : Nat) : pw2 a + pw2 a * (c : Int) <= pw2 (a + c) := by
 have h : c + 1 <= 2 ^ c := Nat.lt_two_pow_self
 have h2 : 2 ^ a * (c + 1) <= 2 ^ (a + c) := by rw [Nat.pow_add]; exact Nat.mul_le_mul_left _ h
 unfold pw2
 generalize 2 ^ (a + c) = x at *
 generalize 2 ^ a = y at *
 rw [Nat.mul_add, Nat.mul_one] at h2
 have h3 : ((y * c : Nat) : Int) = (y : Int) * (c : Int) := by simp
 rw [Int.mul_assoc, <- h3]
 omega
def upN (o : List Int) (k : Int) (es : List Tri) : Nat := (upW o k es).toNat
structure Lnd (n : Nat) (es : List Tri) (o d0 : List Int) (top : Int) (d s : List Int) (k : Int) : Prop where
 dl : d.length = n
 sl : s.length = n
 eq : ∀ v, v < n -> d.getD v 0 = d0.getD v 0 - lap n (wgt es) (fun u => s.getD u 0) v
 up : ∀ v, v < n -> 0 <= s.getD v 0
 sb : ∀ v, v < n -> s.getD v 0 <= (top - k) * 51200
 pos : ∀ v, v < n -> k < o.getD v 0 -> 0 <= d.getD v 0
 bd : ∀ v, v < n -> -pw2 (upN o k es) <= d.getD v 0 /\ d.getD v 0 <= pw2 (upN o k es)
theorem pw9 {n : Nat} {es : List Tri} (hE : Edges n es) (hm : multS es <= 9) (o : List Int) (k : Int) : pw2 (upN o k es) <= 51200 := by
 have h := upW_le (o := o) (k := k) hE.pos
 exact pw2_mono (b := 9) (by unfold upN; omega)
theorem lnd_start {n : Nat} {es : List Tri} {o d0 : List Int} {top : Int} (hd : d0.length = n) (hb : Bd 100 d0) (ht : ∀ v, v < n -> o.getD v 0 <= top) : Lnd n es o d0 top d0 (List.replicate n 0) top := by
 have hr : ∀ v, (List.replicate n (0 : Int)).getD v 0 = 0 := fun v => by
   rw [List.getD_eq_getElem?_getD, List.getElem?_replicate]; split <;> rfl
 refine ⟨hd, by simp, fun v hv => ?_, fun v _ => by rw [hr]; omega, fun v _ => by rw [hr]; omega, fun v hv h => by have := ht v hv; omega, fun v _ => ?_⟩
 · have : lap n (wgt es) (fun u => (List.replicate n (0 : Int)).getD u 0) v = 0 := sumN_zero fun u _ => by simp only [hr]; simp
   rw [this]; omega
 · have := hb v
   have := pw2_pos (upN o top es)
   omega
def Ceil (j : Nat) (es : List Tri) (o d : List Int) (k : Int) (nr : List Bool) (M tm : Int) : Prop :=
 0 <= tm /\ tm <= M /\ ∀ v, v < j -> o.getD v 0 = k -> d.getD v 0 < 0 -> -d.getD v 0 <= tm * joinE es (fnB nr) v
def NearL (n : Nat) (o : List Int) (k : Int) (nr : List Bool) : Prop := nr.length = n /\ ∀ v, v < n -> fnB nr v = decide (o.getD v 0 < k)
theorem near_out {n : Nat} {o : List Int} {k : Int} {nr : List Bool} (h : NearL n o k nr) {v : Nat} (hv : fnB nr v = true) : v < n /\ o.getD v 0 < k := by
 have hv' : v < n := by
   apply Classical.byContradiction
   intro hn
   unfold fnB at hv
   rw [List.getD_eq_getElem?_getD, List.getElem?_eq_none (by rw [h.1]; omega)] at hv
   cases hv
 exact ⟨hv', by rw [h.2 v hv'] at hv; simpa using hv⟩
theorem near_pos {n q : Nat} {es : List Tri} {o : List Int} {k : Int} {nr : List Bool} (hE : Edges n es) (hD : Dist n q es o) (hN : NearL n o k nr) {v : Nat} (hv : v < n) (hk : o.getD v 0 = k) (h1 : 1 <= k) : 1 <= joinE es (fnB nr) v := by
 obtain ⟨p, hp, he, x, hx, hxv⟩ := hD.par v hv (by rintro rfl; rw [hD.q0] at hk; omega)
 obtain ⟨t, ht, hh⟩ := List.mem_filterMap.1 hx
 have hl := hE.lo t ht
 have hm := hE.mult t ht
 split at hh
 · next c =>
   simp only [Option.some.injEq] at hh
   subst hh
   simp only at hxv
   obtain ⟨c1, c2⟩ := c
   have hw := wgt_mem_le hE.pos ht (v := v) (u := p) ⟨c1, by have := hl.1; rcases c2 with c2 | c2 <;> omega⟩
   have hs := sumN_ge (n := n) (c := p) (f := fun u => if fnB nr u = true then wgt es v u else 0) (fun i _ => by split; exact wgt_nonneg hE.pos v i; exact Int.le_refl _) hp
   have hnp : fnB nr p = true := by rw [hN.2 p hp]; simp only [decide_eq_true_eq]; omega
   simp only [hnp, if_true] at hs
   rw [<- join_edges hE.ends]
   unfold joinw
   omega
 · cases hh
theorem ceil_step {j : Nat} {es : List Tri} {o d : List Int} {k : Int} {nr : List Bool} {M tm x : Int} (h : Ceil j es o d k nr M tm) (hd : d.getD j 0 < 0) (hM : -d.getD j 0 <= M) (hj : 1 <= joinE es (fnB nr) j) (hje : ∀ v, 0 <= joinE es (fnB nr) v)
   (hx : x = (-d.getD j 0 + joinE es (fnB nr) j - 1) / joinE es (fnB nr) j) : Ceil (j + 1) es o d k nr M (if x > tm then x else tm) := by
 obtain ⟨h1, h2, h3⟩ := h
 generalize hnn : joinE es (fnB nr) j = nn at *
 generalize hdd : d.getD j 0 = dj at *
 have e1 := Int.mul_ediv_add_emod (-dj + nn - 1) nn
 have e2 := Int.emod_lt_of_pos (-dj + nn - 1) (show 0 < nn by omega)
 have e3 := Int.emod_nonneg (-dj + nn - 1) (show nn ≠ 0 by omega)
 rw [<- hx, Int.mul_comm] at e1
 have hx0 : 0 <= x := by rw [hx]; exact Int.ediv_nonneg (by omega) (by omega)
 have hxM : x <= -dj := by
   apply Classical.byContradiction
   intro hno
   have := Int.mul_le_mul_of_nonneg_right (show -dj + 1 <= x by omega) (show 0 <= nn by omega)
   rw [Int.add_mul] at this
   have h4 := Int.mul_le_mul_of_nonneg_left hj (show 0 <= -dj by omega)
   have h5 : -dj - 1 + nn <= -dj * nn := by
     have := Int.mul_nonneg (show 0 <= -dj - 1 by omega) (show 0 <= nn - 1 by omega)
     have e : (-dj - 1) * (nn - 1) = -dj * nn - -dj - nn + 1 := by
       rw [Int.mul_sub, Int.sub_mul]; omega
     omega
   omega
 have hle : tm <= (if x > tm then x else tm) /\ x <= (if x > tm then x else tm) := by split <;> omega
 refine ⟨by omega, by split <;> omega, fun v hv ho hdv => ?_⟩
 by_cases e : v = j
 · subst e
   rw [hdd, hnn]
   have := Int.mul_le_mul_of_nonneg_right hle.2 (show 0 <= nn by omega)
   omega
 · have := Int.mul_le_mul_of_nonneg_right hle.1 (hje v)
   have := h3 v (by omega) ho hdv
   omega
theorem ceil_skip {j : Nat} {es : List Tri} {o d : List Int} {k : Int} {nr : List Bool} {M tm : Int} (h : Ceil j es o d k nr M tm) (hs : o.getD j 0 ≠ k \/ 0 <= d.getD j 0) : Ceil (j + 1) es o d k nr M tm :=
 ⟨h.1, h.2.1, fun v hv ho hdv => by
   by_cases e : v = j
   · subst e; omega
   · exact h.2.2 v (by omega) ho hdv⟩
theorem lnd_step {n q : Nat} {es : List Tri} {o d0 d s d' s' : List Int} {top k tm : Int} {nr : List Bool} (hE : Edges n es) (hD : Dist n q es o) (hm : multS es <= 9) (h : Lnd n es o d0 top d s k) (hN : NearL n o k nr) (hc : Ceil n es o d k nr (pw2 (upN o k es)) tm)
   (hdl : d'.length = n) (hsl : s'.length = n) (hd : ∀ v, v < n -> d'.getD v 0 = d.getD v 0 - lap n (wgt es) (fun u => if fnB nr u = true then tm else 0) v) (hs : ∀ v, v < n -> s'.getD v 0 = s.getD v 0 + if fnB nr v = true then tm else 0) :
   Lnd n es o d0 top d' s' (k - 1) := by
 have hnb := dist_nb hE hD
 obtain ⟨c1, c2, c3⟩ := hc
 have hj := fun v => joinE_le hE.pos (fnB nr) v
 have hind : ∀ v, v < n -> lap n (wgt es) (fun u => if fnB nr u = true then tm else 0) v = if fnB nr v = true then tm * joinE es (fun u => !fnB nr u) v else -(tm * joinE es (fnB nr) v) := fun v hv => by
   have e := outw_not n (wgt es) (fun u => !fnB nr u) v
   simp only [Bool.not_not] at e
   rw [lap_ind, e, join_edges hE.ends, join_edges hE.ends]
 have hup := upW_le (o := o) (k := k) hE.pos
 have hup1 := upW_le (o := o) (k := k - 1) hE.pos
 have h9 := pw9 hE hm o k
 refine ⟨hdl, hsl, fun v hv => ?_, fun v hv => ?_, fun v hv => ?_, fun v hv ho => ?_, fun v hv => ?_⟩
 · rw [hd v hv, h.eq v hv, Int.sub_sub, <- lap_add]
   congr 1
   exact lap_congr hv fun u hu => by rw [hs u hu]
 · rw [hs v hv]; have := h.up v hv; split <;> omega
 · rw [hs v hv]; have := h.sb v hv
   have e : (top - (k - 1)) * 51200 = (top - k) * 51200 + 51200 := by omega
   rw [e]; split <;> omega
 · rw [hd v hv, hind v hv]
   have hn : ¬ fnB nr v = true := fun hh => by have := (near_out hN hh).2; omega
   rw [if_neg hn]
   have hp := Int.mul_nonneg c1 (hj v).1
   by_cases e : o.getD v 0 = k
   · by_cases hneg : d.getD v 0 < 0
     · have := c3 v hv e hneg; omega
     · omega
   · have := h.pos v hv (by omega); omega
 · have hb := h.bd v hv
   have hbig : ∀ x : Int, 0 <= x -> x <= upW o (k - 1) es - upW o k es -> 0 <= tm * x /\ pw2 (upN o k es) + tm * x <= pw2 (upN o (k - 1) es) := fun x hx0 hx => by
     refine ⟨Int.mul_nonneg c1 hx0, ?_⟩
     have h1 := pw2_add (upN o k es) x.toNat
     have h2 := Int.mul_le_mul_of_nonneg_right c2 hx0
     have h3 : ((x.toNat : Nat) : Int) = x := by omega
     rw [h3] at h1
     have h4 := pw2_mono (a := upN o k es + x.toNat) (b := upN o (k - 1) es) (by unfold upN; omega)
     omega
   rw [hd v hv, hind v hv]
   by_cases c : fnB nr v = true
   · rw [if_pos c]
     have := hbig (joinE es (fun u => !fnB nr u) v) (joinE_le hE.pos _ v).1 (join_up hnb (.inl ⟨(near_out hN c).2, fun u hul hu => by rw [hN.2 u hul] at hu; simpa using hu⟩))
     omega
   · rw [if_neg c]
     have := hbig (joinE es (fnB nr) v) (hj v).1 (join_up hnb (.inr ⟨by have := hN.2 v hv; rw [Bool.not_eq_true] at c; rw [c] at this; simpa using this.symm, fun u _ hu => (near_out hN hu).2⟩))
     omega
theorem lnd_fire {n q : Nat} {es : List Tri} {o d0 d s : List Int} {top k tm : Int} {nr : List Bool} (hE : Edges n es) (hD : Dist n q es o) (hm : multS es <= 9) (h : Lnd n es o d0 top d s k) (hN : NearL n o k nr) (hc : Ceil n es o d k nr (pw2 (upN o k es)) tm) :
   Lnd n es o d0 top (fireS nr tm es n d) (addS nr tm n s) (k - 1) := by
 have hd : ∀ v, v < n -> (fireS nr tm es n d).getD v 0 = d.getD v 0 - lap n (wgt es) (fun u => if fnB nr u = true then tm else 0) v := fun v hv => by
   rw [fireS_get hE.ends h.dl _ _ (Nat.le_refl _) hv, <- lap_edges hE.ends]
   congr 1
   refine lap_congr hv fun u hu => ?_
   unfold fnB
   by_cases c : nr.getD u false = true
   · rw [if_pos ⟨hu, c⟩, if_pos c]
   · rw [if_neg fun hh => c hh.2, if_neg c]
 have hs : ∀ v, v < n -> (addS nr tm n s).getD v 0 = s.getD v 0 + if fnB nr v = true then tm else 0 := fun v hv => by
   rw [addS_get (by rw [h.sl]; exact Nat.le_refl _)]
   congr 1
   unfold fnB
   by_cases c : nr.getD v false = true
   · rw [if_pos ⟨hv, c⟩, if_pos c]
   · rw [if_neg fun hh => c hh.2, if_neg c]
 exact lnd_step hE hD hm h hN hc (by rw [fireS_len]; exact h.dl) (by rw [addS_len]; exact h.sl) hd hs
theorem lnd_skip {n q : Nat} {es : List Tri} {o d0 d s : List Int} {top k : Int} {nr : List Bool} (hE : Edges n es) (hD : Dist n q es o) (hm : multS es <= 9) (h : Lnd n es o d0 top d s k) (hN : NearL n o k nr) (hc : Ceil n es o d k nr (pw2 (upN o k es)) 0) :
   Lnd n es o d0 top d s (k - 1) := by
 refine lnd_step hE hD hm h hN hc h.dl h.sl (fun v hv => ?_) (fun v hv => by split <;> omega)
 have : lap n (wgt es) (fun u => if fnB nr u = true then (0 : Int) else 0) v = 0 := sumN_zero fun u _ => by simp
 rw [this]; omega
open Go.RowKit Go.Shelf

def StR (b eb n q gd capd gs caps B : Nat) (ve : Value) (es : List Tri) (w : World) (d s : List Int) (wr : World) : Prop :=
 ST wr b n ve q (.slice (some ⟨gd, 0, none⟩) n capd) (.slice (some ⟨gs, 0, none⟩) n caps) 0 /\ EB wr ve es eb /\ OI wr B (.slice (some ⟨gd, 0, none⟩) n capd) d /\ OI wr B (.slice (some ⟨gs, 0, none⟩) n caps) s /\ Fr [gd, gs] w wr
theorem StR.below {b eb n q gd capd gs caps B : Nat} {ve : Value} {es : List Tri} {w : World} {d s : List Int} {wr W : World} (h : StR b eb n q gd capd gs caps B ve es w d s wr) (hb : Below wr.heap.size wr W) : StR b eb n q gd capd gs caps B ve es w d s W :=
 ⟨BL.bel h.1 hb, h.2.1.below hb, h.2.2.1.below hb, h.2.2.2.1.below hb, h.2.2.2.2.below hb⟩
theorem StR.set {b eb n q gd capd gs caps B : Nat} {ve : Value} {es : List Tri} {w : World} {d s : List Int} {wr : World} (h : StR b eb n q gd capd gs caps B ve es w d s wr) {p : Addr} (h1 : b ≠ p.block) (h2 : eb ≠ p.block) (h3 : gd ≠ p.block) (h4 : gs ≠ p.block) (h5 : w.heap.size <= p.block) (x : Value) :
   StR b eb n q gd capd gs caps B ve es w d s (wr.setCell p x) :=
 ⟨BL.set_other h.1 h1 _, h.2.1.keep (by simp) (heap_setCell_other _ _ _ _ h2), OI.setOther h.2.2.1 h3 _, OI.setOther h.2.2.2.1 h4 _, h.2.2.2.2.setCell (.inr h5) _⟩
def LnR (b eb n q gd capd gs caps B : Nat) (ve : Value) (es : List Tri) (w : World) (B2 g : Nat) (o d s : List Int) (wr : World) : Prop :=
 StR b eb n q gd capd gs caps B ve es w d s wr /\ OI wr B2 (.slice (some ⟨g, 0, none⟩) n n) o
theorem LnR.below {b eb n q gd capd gs caps B : Nat} {ve : Value} {es : List Tri} {w : World} {B2 g : Nat} {o d s : List Int} {wr W : World} (h : LnR b eb n q gd capd gs caps B ve es w B2 g o d s wr) (hb : Below wr.heap.size wr W) : LnR b eb n q gd capd gs caps B ve es w B2 g o d s W :=
 ⟨h.1.below hb, h.2.below hb⟩
def LnI (b eb n q gd capd gs caps B : Nat) (ve : Value) (es : List Tri) (w : World) (B2 g : Nat) (o d s : List Int) (gl : Nat) (nr : List Bool) (wr : World) : Prop :=
 LnR b eb n q gd capd gs caps B ve es w B2 g o d s wr /\ BL wr (gl + 1) 206 [.slice (some ⟨gl, 0, none⟩) n n] /\ OV wr gl 4 (.slice (some ⟨gl, 0, none⟩) n n) (nr.map Value.bool)
theorem LnI.below {b eb n q gd capd gs caps B : Nat} {ve : Value} {es : List Tri} {w : World} {B2 g : Nat} {o d s : List Int} {gl : Nat} {nr : List Bool} {wr W : World} (h : LnI b eb n q gd capd gs caps B ve es w B2 g o d s gl nr wr) (hb : Below wr.heap.size wr W) : LnI b eb n q gd capd gs caps B ve es w B2 g o d s gl nr W :=
 ⟨h.1.below hb, h.2.1.bel hb, OV.below h.2.2 hb⟩
def farB (n : Nat) (o : List Int) (k : Int) : List Bool := (List.range n).map fun v => decide (k <= o.getD v 0)
theorem farB_len (n : Nat) (o : List Int) (k : Int) : (farB n o k).length = n := by simp [farB]
theorem farB_at {n : Nat} (o : List Int) (k : Int) {v : Nat} (hv : v < n) : (!fnB (farB n o k) v) = decide (o.getD v 0 < k) := by
 have h : fnB (farB n o k) v = decide (k <= o.getD v 0) := by
   unfold fnB farB
   rw [List.getD_eq_getElem?_getD, List.getElem?_map, List.getElem?_range hv]; rfl
 rw [h]
 rw [Bool.eq_iff_iff]
 simp only [Bool.not_eq_true', decide_eq_false_iff_not, decide_eq_true_eq]
 omega
theorem farB_near (n : Nat) (o : List Int) (k : Int) : NearL n o k ((farB n o k).map fun x => !x) :=
 ⟨by simp [farB], fun v hv => by rw [fnB_not _ (by rw [farB_len]; exact hv), farB_at o k hv]⟩
theorem Lnd.bds {n : Nat} {es : List Tri} {o d0 : List Int} {top : Int} {d s : List Int} {k : Int} (h : Lnd n es o d0 top d s k) (hE : Edges n es) (hm : multS es <= 9) (hk : 0 <= k) (ht : top <= 12) : Bd 51200 d /\ Bd 614400 s := by
 have h9 := pw9 hE hm o k
 refine ⟨bd_of h.dl (by omega) fun v hv => ?_, bd_of h.sl (by omega) fun v hv => ?_⟩
 · have := h.bd v hv; omega
 · have h1 := h.up v hv
   have h2 := h.sb v hv
   omega
theorem lend_any (b eb n q gd capd gs caps B : Nat) (ve : Value) (es : List Tri) (d0 : List Int) (w : World) (hE : Edges n es) (hn : n <= 6) (hq : q < n) (hc : Conn n (wgt es)) (hm9 : multS es <= 9)
   (hST : ST w b n ve q (.slice (some ⟨gd, 0, none⟩) n capd) (.slice (some ⟨gs, 0, none⟩) n caps) 0) (hEB : EB w ve es eb) (heb : eb < w.heap.size) (he1 : eb ≠ gd) (he2 : eb ≠ gs) (hgg : gd ≠ gs)
   (hd : OI w B (.slice (some ⟨gd, 0, none⟩) n capd) d0) (hs : OI w B (.slice (some ⟨gs, 0, none⟩) n caps) (List.replicate n 0)) (hdl : d0.length = n) (hdb : Bd 100 d0) :
   Calls Tryz.prog 204 #[.pointer (some ⟨b, 0, none⟩)] w fun e w' => (∃ v, e = .returned v) /\ ∃ o top d s, StR b eb n q gd capd gs caps B ve es w d s w' /\ Dist n q es o /\ top <= 12 /\ Lnd n es o d0 top d s 0 := by
 have hbz : b < w.heap.size := BL.lt hST
 have hdz : gd < w.heap.size := (hd.1.lt gd rfl).2
 have hsz : gs < w.heap.size := (hs.1.lt gs rfl).2
 have hBg : B <= gd := (hd.1.lt gd rfl).1
 have HS0 : Hid (StR b eb n q gd capd gs caps B ve es w d0 (List.replicate n 0) w) := ⟨hST, hEB, hd, hs, Fr.refl _ _⟩
 have HDs := Hd (distances_any b eb n q ve _ _ es w hE (by omega) hq hc hST hEB heb)
 have HE := Hd hE
 have HC := Hd hc
 have HDL := Hd hdl
 have HDB := Hd hdb
 have HM9 := Hd hm9
 clear hST hEB hd hs hE hc hdl hdb hm9
 go_enter Tryz.func204, Tryz.ntmps204
 go_wp2_with fail
 refine HDs.out.mono ?_
 rintro e w1 ⟨g, o, rfl, hg, ho, hdist, hb1⟩
 have hol := hdist.len
 have HMx := Hd (Max_any _ o w1 ho.rv (by omega))
 have HO := Hd ho
 have HDi := Hd hdist
 have HB1 := Hd hb1
 have hz1 := hb1.size
 obtain ⟨top, htop⟩ : ∃ top, top = maxTo o (o.length - 1) := ⟨_, rfl⟩
 rw [<- htop] at HMx
 have hge : ∀ v, v < n -> o.getD v 0 <= top := fun v hv => by rw [htop]; exact maxTo_ge _ _ _ (by omega)
 have htb : 0 <= top /\ top <= 12 := by
   obtain ⟨j, hj, he⟩ := maxTo_is o (o.length - 1)
   have := hdist.bd j (by omega)
   rw [htop, he]; omega
 have HL0 := Hd (lnd_start (es := es) HDL.out HDB.out hge)
 have HR0 : Hid (LnR b eb n q gd capd gs caps B ve es w w.heap.size g o d0 (List.replicate n 0) w1) := ⟨⟨BL.bel HS0.out.1 hb1, HS0.out.2.1.below hb1, HS0.out.2.2.1.below hb1, HS0.out.2.2.2.1.below hb1, HS0.out.2.2.2.2.below hb1⟩, ho⟩
 clear ho hdist hb1 htop hge
 go_wp2_with fail
 refine HMx.out.mono ?_
 rintro e w2 ⟨rfl, rfl⟩
 go_wp2
 go_loopw [4] (fun kv wr => ∃ (k : Int) (d s : List Int), kv = .int .i64 k /\ 0 <= k /\ k <= top /\ Hid (LnR b eb n q gd capd gs caps B ve es w w.heap.size g o d s wr) /\ Hid (Lnd n es o d0 top d s k)) (fun kv _ => (intOf kv).toNat)
 case atStart => exact ⟨top, _, _, rfl, htb.1, Int.le_refl _, HR0.out, HL0.out⟩
 case round =>
   obtain ⟨k, d, s, rfl, hk0, hkt, hr, hl⟩ := hrel
   obtain ⟨wo, rfl⟩ : ∃ wo : World, wo = wr := ⟨_, rfl⟩
   have hbo : w.heap.size <= wo.heap.size := hr.out.1.2.2.2.2.size
   have hgw : g < wo.heap.size := (hr.out.2.1.lt g rfl).2
   have e5 : wo.cell? ⟨b, 5, none⟩ = some (.int .i64 0) := BL.cell hr.out.1.1 5
   have n1 : wo.cell? ⟨b, 0, none⟩ = some (.int .i64 (n : Int)) := BL.cell hr.out.1.1 0
   by_cases hpos : 0 < k
   · have hmk := run_make_row' (P := Tryz.prog) 206 4 (.bool false) 1 Tryz.underlying206 bool_info rfl .i64 .i64 n (by omega) (by omega)
     obtain ⟨W1, hW1⟩ : ∃ W1, W1 = (wo.alloc (.cells (madeCells #[Value.bool false] n) 4)).alloc (.cells #[.slice (some ⟨wo.heap.size, 0, none⟩) n n] 206) := ⟨_, rfl⟩
     have hbw1 : Below wo.heap.size wo W1 := by rw [hW1]; exact (below_alloc wo _).alloc (by simp) _
     have o1 : OV W1 wo.heap.size 4 (.slice (some ⟨wo.heap.size, 0, none⟩) n n) ((leftL n 0 (farB n o k)).map Value.bool) := by
       rw [hW1]
       have := OV.below (own_falses wo n (by omega)) (below_alloc (wo.alloc (.cells (madeCells #[Value.bool false] n) 4)) (.cells #[.slice (some ⟨wo.heap.size, 0, none⟩) n n] 206))
       unfold leftL; simpa using this
     have x1 : BL W1 (wo.heap.size + 1) 206 [.slice (some ⟨wo.heap.size, 0, none⟩) n n] := by
       rw [hW1]
       have := BL.new' (wo.alloc (.cells (madeCells #[Value.bool false] n) 4)) #[.slice (some ⟨wo.heap.size, 0, none⟩) n n] 206
       rwa [World.size_alloc] at this
     have HI0 : Hid (LnI b eb n q gd capd gs caps B ve es w w.heap.size g o d s wo.heap.size (leftL n 0 (farB n o k)) W1) := ⟨hr.out.below hbw1, x1, o1⟩
     have c1 := x1.cell 0
     have HW1 := Hd hW1
     clear o1 x1 hbw1
     rw [hW1] at c1
     clear hW1
     go_wp2_with fail
     rw [<- HW1.out]
     clear hmk e5 n1 c1 HW1
     go_loopw [36] (fun i wr => ∃ j : Nat, j <= n /\ i = .int .i64 (j : Int) /\ Hid (LnI b eb n q gd capd gs caps B ve es w w.heap.size g o d s wo.heap.size (leftL n j (farB n o k)) wr)) (fun i _ => n - (intOf i).toNat)
     case atStart => exact ⟨0, Nat.zero_le _, rfl, HI0.out⟩
     case round =>
       obtain ⟨j, hj, rfl, hi⟩ := hrel
       by_cases hlt : j < n
       · have x3 := hi.out.2.1.cell 0
         obtain ⟨-, -, p1, -, -⟩ := OI.at' hi.out.1.2 (k := j) (by have := HDi.out.len; omega)
         obtain ⟨q1, q2, q3⟩ := bools_at hi.out.2.2 (leftL_len (farB_len n o k) hj) hlt
         have hset := (q3 (decide (o.getD j 0 < k))).1
         rw [<- farB_at o k hlt, leftL_set (farB_len n o k) hlt, farB_at o k hlt] at hset
         have HI2 : Hid (LnI b eb n q gd capd gs caps B ve es w w.heap.size g o d s wo.heap.size (leftL n (j + 1) (farB n o k)) (wr.setCell ⟨wo.heap.size, j, none⟩ (.bool (decide (o.getD j 0 < k))))) :=
           ⟨⟨hi.out.1.1.set (p := ⟨wo.heap.size, j, none⟩) (by simp; omega) (by simp; omega) (by simp; omega) (by simp; omega) (by simp; omega) _, OI.setOther hi.out.1.2 (p := ⟨wo.heap.size, j, none⟩) (by simp; omega) _⟩, hi.out.2.1.set_other (by simp) _, hset⟩
         clear hset q3
         generalize o.getD j 0 = oj at *
         go_wp2_with fail
         refine wp_region_still_tail 9 (by kernel_rfl) (by kernel_rfl) ?_
         change wpStill _ _ wr.drew _ _ _
         simp only [List.take_succ_cons, List.take_zero, List.drop_succ_cons, List.drop_zero]
         repeat still_step
         refine wpStill_nil ?_
         change wpList _ _ _ _ _ wr.drew
         go_wp2
         go_roundw
         case rel => exact ⟨j + 1, by omega, by go_num, HI2.out.below ((Below.refl _ _).drew)⟩
         case measure => simp [intOf]; omega
       · obtain rfl : j = n := by omega
         have hi2 := hi.out
         rw [leftL_all (farB_len j o k)] at hi2
         obtain ⟨nr, hnr⟩ : ∃ nr, nr = (farB j o k).map fun x => !x := ⟨_, rfl⟩
         have hN : NearL j o k nr := by rw [hnr]; exact farB_near j o k
         rw [<- hnr] at hi2
         have HN := Hd hN
         have HI2 := Hd hi2
         clear hi2 hN hnr
         have hgl := HI2.out.2.1.lt
         obtain ⟨wi, rfl⟩ : ∃ wi : World, wi = wr := ⟨_, rfl⟩
         go_wp2
         go_loopw [7, 51] (fun tm i wr => ∃ (j' : Nat) (tz : Int), j' <= j /\ i = .int .i64 (j' : Int) /\ tm = .int .i64 tz /\ 0 <= tz /\ tz <= 51200 /\ Hid (LnI b eb j q gd capd gs caps B ve es w w.heap.size g o d s wo.heap.size nr wr) /\ Hid (Ceil j' es o d k nr (pw2 (upN o k es)) tz)) (fun _ i _ => j - (intOf i).toNat)
         case atStart => exact ⟨0, 0, Nat.zero_le _, rfl, rfl, by omega, by omega, HI2.out, by omega, by have := pw2_pos (upN o k es); omega, fun v hv => by omega⟩
         case round =>
           obtain ⟨v, tz, hv, rfl, rfl, htz0, htz1, hi3, hct⟩ := hrel
           have hz4 := hi3.out.2.1.lt
           by_cases hlt : v < j
           · obtain ⟨-, -, p1, -, -⟩ := OI.at' hi3.out.1.2 (k := v) (by have := HDi.out.len; omega)
             obtain ⟨-, -, e1, -, -⟩ := OI.at' hi3.out.1.1.2.2.1 (k := v) (by have := hl.out.dl; omega)
             have e3 : wr.cell? ⟨b, 3, none⟩ = some (.slice (some ⟨gd, 0, none⟩) j capd) := BL.cell hi3.out.1.1.1 3
             have hz3 := hi3.out.2.1.lt
             have hoe : Hid (o.getD v 0 = o.getD v 0) := rfl
             obtain ⟨ok, hok⟩ : ∃ ok, ok = o.getD v 0 := ⟨_, rfl⟩
             obtain ⟨dv, hdv⟩ : ∃ dv, dv = d.getD v 0 := ⟨_, rfl⟩
             rw [<- hok] at p1
             rw [<- hdv] at e1
             have hbd := (hl.out.bds HE.out HM9.out hk0 htb.2).1 v
             rw [<- hdv] at hbd
             have HOK := Hd hok
             have HDV := Hd hdv
             clear hoe hok hdv
             by_cases hfar : ok = k /\ dv < 0
             · obtain ⟨rfl, hneg⟩ := hfar
               have HJ := Hd (joins_any b v eb j ve q (.slice (some ⟨gd, 0, none⟩) j capd) (.slice (some ⟨gs, 0, none⟩) j caps) 0 es _ (fnB nr) wr HE.out hlt (by omega) hi3.out.1.1.1 hi3.out.1.1.2.1 (near_clo wr (wo.heap.size + 1) wo.heap.size wo.heap.size j j nr hi3.out.2.1 hi3.out.2.2 HN.out.1) (by omega) (by omega))
               have hj1 := near_pos HE.out HDi.out HN.out hlt HOK.out.symm (by omega)
               have hj2 := joinE_le HE.out.pos (fnB nr) v
               have hm9 := HM9.out
               obtain ⟨jn, hjn⟩ : ∃ jn, jn = joinE es (fnB nr) v := ⟨_, rfl⟩
               rw [<- hjn] at HJ hj1 hj2
               obtain ⟨x, hx⟩ : ∃ x, x = (-dv + jn - 1) / jn := ⟨_, rfl⟩
               have hx1 : 0 <= x := by rw [hx]; exact Int.ediv_nonneg (by omega) (by omega)
               have hx2 : x <= 51300 := by rw [hx]; exact Int.le_trans (Int.ediv_le_self _ (by omega)) (by omega)
               have hcs := ceil_step (x := x) hct.out (by rw [<- HDV.out]; exact hneg) (by have := (hl.out.bd v hlt).1; omega) (by rw [<- hjn]; exact hj1) (fun v => (joinE_le HE.out.pos (fnB nr) v).1) (by rw [hx, HDV.out, hjn])
               have hcb : (if x > tz then x else tz) <= 51200 := Int.le_trans hcs.2.1 (pw9 HE.out HM9.out _ _)
               have hcb0 : 0 <= (if x > tz then x else tz) := hcs.1
               have HCs := Hd hcs
               have ht1 : (-dv + jn - 1).tdiv jn = x := by rw [hx]; exact Int.tdiv_eq_ediv_of_nonneg (by omega)
               have w1 : IntKind.i64.wrap (-dv) = -dv := IntWalk.i64_in _ (by omega)
               have w2 : IntKind.i64.wrap (-dv + jn) = -dv + jn := IntWalk.i64_in _ (by omega)
               have w3 : IntKind.i64.wrap (-dv + jn - 1) = -dv + jn - 1 := IntWalk.i64_in _ (by omega)
               have w4 : IntKind.i64.wrap x = x := IntWalk.i64_in _ (by omega)
               have hmx := fun W => run_max2z (P := Tryz.prog) #[3, 3] 3 .i64 tz x W
               have hnz : jn ≠ 0 := by omega
               clear hcs hjn hx hj2 hm9
               go_wp2_with fail
               refine HJ.out.mono ?_
               rintro e w5 ⟨rfl, hb5⟩
               have HI5 := Hd (hi3.out.below hb5)
               have e35 : w5.cell? ⟨b, 3, none⟩ = some (.slice (some ⟨gd, 0, none⟩) j capd) := BL.cell HI5.out.1.1.1 3
               obtain ⟨-, -, e15, -, -⟩ := OI.at' HI5.out.1.1.2.2.1 (k := v) (by have := hl.out.dl; omega)
               rw [<- HDV.out] at e15
               clear hb5 HJ e1 e3
               go_wp2
               go_roundw
               case rel => exact ⟨v + 1, (if x > tz then x else tz), by omega, by go_num, rfl, hcb0, hcb, HI5.out, HCs.out⟩
               case measure => simp [intOf]; omega
             · have hsk := ceil_skip hct.out (by rw [<- HOK.out, <- HDV.out]; omega)
               have HSk := Hd hsk
               clear hsk
               by_cases hok2 : ok = k
               · have hnn : ¬ dv < 0 := fun h => hfar ⟨hok2, h⟩
                 subst hok2
                 clear hfar
                 go_wp2
                 go_roundw
                 case rel => exact ⟨v + 1, tz, by omega, by go_num, rfl, htz0, htz1, hi3.out, HSk.out⟩
                 case measure => simp [intOf]; omega
               · clear hfar
                 go_wp2
                 go_roundw
                 case rel => exact ⟨v + 1, tz, by omega, by go_num, rfl, htz0, htz1, hi3.out, HSk.out⟩
                 case measure => simp [intOf]; omega
           · obtain rfl : v = j := by omega
             have x2 := hi3.out.2.1.cell 0
             by_cases hpt : 0 < tz
             · have hst := lnd_fire HE.out HDi.out HM9.out hl.out HN.out hct.out
               obtain ⟨bd1, bs1⟩ := hl.out.bds HE.out HM9.out hk0 htb.2
               obtain ⟨bd2, bs2⟩ := hst.bds HE.out HM9.out (by omega) htb.2
               have HFi := Hd (fire_any b eb v wo.heap.size v gd capd gs caps B ve q es nr tz d s wr HE.out (by omega) (by omega) hi3.out.1.1.1 hi3.out.1.1.2.1 (by omega) he1 he2 hgg hi3.out.1.1.2.2.1 hi3.out.1.1.2.2.2.1 (OV.mono hi3.out.2.2 (by omega)) (by omega) hl.out.dl hl.out.sl HN.out.1
                 (fun j => by have := bd1 j; omega) (fun j => by have := bs1 j; omega) (fun j => by have := bd2 j; omega) (fun j => by have := bs2 j; omega))
               have HSt := Hd hst
               clear hst bd1 bs1 bd2 bs2
               go_wp2_with fail
               refine HFi.out.mono ?_
               rintro e w3 ⟨⟨vv, rfl⟩, hST3, hD3, hS3, hF3⟩
               have HR3 : Hid (LnR b eb v q gd capd gs caps B ve es w w.heap.size g o (fireS nr tz es v d) (addS nr tz v s) w3) :=
                 ⟨⟨hST3, hi3.out.1.1.2.1.fr hF3 (by simp; omega) (by omega), hD3, hS3, hi3.out.1.1.2.2.2.2.trans hF3⟩, OV.fr hi3.out.1.2 hF3 (fun g' hg' => by simp only [Value.ownBlock, Option.some.injEq] at hg'; subst hg'; simp only [List.mem_cons, List.not_mem_nil, or_false]; intro h; rcases h with h | h <;> omega)⟩
               clear hST3 hD3 hS3 hF3 x2
               go_wp2
               go_roundw
               case rel => exact ⟨k - 1, _, _, by go_num, by omega, by omega, HR3.out, HSt.out⟩
               case measure => simp [intOf]; omega
             · obtain rfl : tz = 0 := by omega
               have HSt := Hd (lnd_skip HE.out HDi.out HM9.out hl.out HN.out hct.out)
               go_wp2
               go_roundw
               case rel => exact ⟨k - 1, d, s, by go_num, by omega, by omega, hi3.out.1, HSt.out⟩
               case measure => simp [intOf]; omega
   · obtain rfl : k = 0 := by omega
     go_wp2
     refine bodyPost_end (results_none rfl _ _ _) rfl ?_
     exact ⟨⟨_, rfl⟩, o, top, d, s, hr.out.1, HDi.out, htb.2, hl.out⟩

def lessL (s : List Int) (z : Int) : Nat -> List Int
 | 0 => s
 | k + 1 => (lessL s z k).set k ((lessL s z k).getD k 0 - z)
theorem lessL_len (s : List Int) (z : Int) (k : Nat) : (lessL s z k).length = s.length := by
 induction k with
 | zero => rfl
 | succ k ih => simp [lessL, ih]
theorem lessL_get {s : List Int} {z : Int} {k : Nat} (hk : k <= s.length) (x : Nat) : (lessL s z k).getD x 0 = if x < k then s.getD x 0 - z else s.getD x 0 := by
 induction k with
 | zero => simp [lessL]
 | succ k ih =>
   have ih := ih (by omega)
   simp only [lessL]
   have ihk : (lessL s z k).getD k 0 = s.getD k 0 := by
     have : ∀ y, (lessL s z k).getD y 0 = if y < k then s.getD y 0 - z else s.getD y 0 := by
       clear ih
       have key : ∀ m, m <= s.length -> ∀ y, (lessL s z m).getD y 0 = if y < m then s.getD y 0 - z else s.getD y 0 := by
         intro m
         induction m with
         | zero => intro _ y; simp [lessL]
         | succ m ihm =>
           intro hm y
           have ihm := ihm (by omega)
           simp only [lessL]
           rw [getD_set_int _ _ _ _ (by rw [lessL_len]; omega)]
           by_cases e : m = y
           · subst e; rw [if_pos rfl, if_pos (by omega), ihm, if_neg (by omega)]
           · rw [if_neg e, ihm]
             by_cases c : y < m
             · rw [if_pos c, if_pos (by omega)]
             · rw [if_neg c, if_neg (by omega)]
       exact key k (by omega)
     rw [this, if_neg (by omega)]
   rw [getD_set_int _ _ _ _ (by rw [lessL_len]; omega), ihk]
   by_cases e : k = x
   · subst e; rw [if_pos rfl, if_pos (by omega)]
   · rw [if_neg e, ih]
     by_cases c : x < k
     · rw [if_pos c, if_pos (by omega)]
     · rw [if_neg c, if_neg (by omega)]
theorem all_inB {zs : List Int} {n : Nat} (hl : zs.length = n) (h : ∀ v, v < n -> -1048576 <= zs.getD v 0 /\ zs.getD v 0 <= 1048576) : zs.all InB = true := by
 refine List.all_eq_true.2 fun z hz => ?_
 obtain ⟨i, hi, rfl⟩ := List.getElem_of_mem hz
 have := h i (by omega)
 rw [List.getD_eq_getElem?_getD, List.getElem?_eq_getElem hi] at this
 exact (inB_iff _).2 this
theorem checkE_fine {zs : List Int} {n : Nat} (hn : 1 <= n) (hn2 : n <= 12) (hl : zs.length = n) (h : ∀ v, v < n -> -1048576 <= zs.getD v 0 /\ zs.getD v 0 <= 1048576) : checkE zs n = 0 := by
 unfold checkE
 rw [if_neg (by omega), if_neg (by omega), if_pos (all_inB hl h)]
theorem result_any (b eb n q gd capd gs caps B : Nat) (ve : Value) (es : List Tri) (d s : List Int) (w : World) (hn : n <= 12) (hq : q < n) (hR : StR b eb n q gd capd gs caps B ve es w d s w) (hbd : b ≠ gs) (hgg : gd ≠ gs) (heb : eb ≠ gs) (hdl : d.length = n) (hsl : s.length = n)
   (hdb : ∀ v, v < n -> -1048576 <= d.getD v 0 /\ d.getD v 0 <= 1048576) (hsb : ∀ v, v < n -> -1048576 <= s.getD v 0 - s.getD q 0 /\ s.getD v 0 - s.getD q 0 <= 1048576) :
   Calls Tryz.prog 206 #[.pointer (some ⟨b, 0, none⟩)] w fun e w' => e = .returned (.tuple #[.slice (some ⟨gd, 0, none⟩) n capd, .slice (some ⟨gs, 0, none⟩) n caps, .int .i64 0]) /\
     StR b eb n q gd capd gs caps B ve es w d (lessL s (s.getD q 0) n) w' := by
 have e5 : w.cell? ⟨b, 5, none⟩ = some (.int .i64 0) := BL.cell hR.1 5
 have e4 : w.cell? ⟨b, 4, none⟩ = some (.slice (some ⟨gs, 0, none⟩) n caps) := BL.cell hR.1 4
 have e2 : w.cell? ⟨b, 2, none⟩ = some (.int .i64 (q : Int)) := BL.cell hR.1 2
 obtain ⟨-, -, e1, -, -⟩ := OI.at' hR.2.2.2.1 (k := q) (by omega)
 obtain ⟨z, hz⟩ : ∃ z, z = s.getD q 0 := ⟨_, rfl⟩
 rw [<- hz] at e1 hsb ⊢
 have HR := Hd hR
 have HDL := Hd hdl
 have HSL := Hd hsl
 have HDB := Hd hdb
 have HSB := Hd hsb
 clear hR hdl hsl hdb hsb hz
 go_enter Tryz.func206, Tryz.ntmps206
 go_wp2_with fail
 go_quiet (fail)
 have HR0 := Hd (HR.out.below (below_drewN (Below.refl _ _) nq))
 clear e5 e4 e2 e1
 have e4 : (w.drewN nq).cell? ⟨b, 4, none⟩ = some (.slice (some ⟨gs, 0, none⟩) n caps) := BL.cell HR0.out.1 4
 go_wp2
 go_loopw [31] (fun i wr => ∃ k : Nat, k <= n /\ i = .int .i64 (k : Int) /\ Hid (StR b eb n q gd capd gs caps B ve es w d (lessL s z k) wr)) (fun i _ => n - (intOf i).toNat)
 case atStart => exact ⟨0, Nat.zero_le _, rfl, HR0.out⟩
 case round =>
   obtain ⟨k, hk, rfl, hr⟩ := hrel
   have hr4 : wr.cell? ⟨b, 4, none⟩ = some (.slice (some ⟨gs, 0, none⟩) n caps) := BL.cell hr.out.1 4
   by_cases hlt : k < n
   · obtain ⟨-, -, e1, f1, est⟩ := OI.at' hr.out.2.2.2.1 (k := k) (by rw [lessL_len]; have := HSL.out; omega)
     have hg : (lessL s z k).getD k 0 = s.getD k 0 := by rw [lessL_get (by have := HSL.out; omega), if_neg (by omega)]
     have hb := HSB.out k hlt
     have hset := (est ((lessL s z k).getD k 0 - z)).1
     rw [show (lessL s z k).set k ((lessL s z k).getD k 0 - z) = lessL s z (k + 1) from rfl] at hset
     rw [hg] at e1 hset
     generalize s.getD k 0 = sk at *
     have hw : IntKind.i64.wrap (sk - z) = sk - z := IntWalk.i64_in _ (by omega)
     have HN : Hid (StR b eb n q gd capd gs caps B ve es w d (lessL s z (k + 1)) (wr.setCell ⟨gs, k, none⟩ (.int .i64 (sk - z)))) :=
       ⟨BL.set_other hr.out.1 hbd _, hr.out.2.1.keep (by simp) (heap_setCell_other _ _ _ _ heb), OI.setOther hr.out.2.2.1 hgg _, hset, hr.out.2.2.2.2.setCell (.inl (by simp)) _⟩
     clear hset est hg
     go_wp2
     go_roundw
     case rel => exact ⟨k + 1, by omega, by go_num, HN.out⟩
     case measure => simp [intOf]; omega
   · obtain rfl : k = n := by omega
     have hr3 : wr.cell? ⟨b, 3, none⟩ = some (.slice (some ⟨gd, 0, none⟩) k capd) := BL.cell hr.out.1 3
     have hr0 : wr.cell? ⟨b, 0, none⟩ = some (.int .i64 (k : Int)) := BL.cell hr.out.1 0
     have HCd : ∀ m, Calls Tryz.prog 65 #[.slice (some ⟨gd, 0, none⟩) k capd, .int .i64 (k : Int)] (wr.drewN m) fun e w' => e = .returned (.int .i64 0) /\ ∃ k, w' = wr.drewN k := fun m => by
       have h := check_any _ d (k : Int) (wr.drewN m) (OV.rv (OV.below hr.out.2.2.1 (below_drewN (Below.refl _ _) m)))
       rw [checkE_fine (by omega) hn HDL.out HDB.out] at h
       exact h.mono fun _ _ ⟨he, hm⟩ => ⟨he, m, hm.symm⟩
     have HCs : ∀ m, Calls Tryz.prog 65 #[.slice (some ⟨gs, 0, none⟩) k caps, .int .i64 (k : Int)] (wr.drewN m) fun e w' => e = .returned (.int .i64 0) /\ ∃ k, w' = wr.drewN k := fun m => by
       have h := check_any _ (lessL s z k) (k : Int) (wr.drewN m) (OV.rv (OV.below hr.out.2.2.2.1 (below_drewN (Below.refl _ _) m)))
       rw [checkE_fine (by omega) hn (by rw [lessL_len]; exact HSL.out) (fun v hv => by rw [lessL_get (by have := HSL.out; omega), if_pos hv]; exact HSB.out v hv)] at h
       exact h.mono fun _ _ ⟨he, hm⟩ => ⟨he, m, hm.symm⟩
     go_wp2_with fail
     go_quiet (first | (go_at_call 65; first | with_reducible exact HCd _ | with_reducible exact HCs _))
     have HR1 := Hd (hr.out.below (below_drewN (Below.refl _ _) nq))
     clear hr3 hr0 hr4 HCd HCs
     have g3 : (wr.drewN nq).cell? ⟨b, 3, none⟩ = some (.slice (some ⟨gd, 0, none⟩) k capd) := BL.cell HR1.out.1 3
     have g4 : (wr.drewN nq).cell? ⟨b, 4, none⟩ = some (.slice (some ⟨gs, 0, none⟩) k caps) := BL.cell HR1.out.1 4
     generalize wr.drewN nq = wz at *
     go_wp2_with fail
     go_quiet (fail)
     go_wp2
     (try simp only [Exit.inBlock, Exit.then])
     refine bodyPost_ret (results_tmp3 rfl _ _ _) rfl ?_
     exact ⟨rfl, HR1.out.below (below_drewN (Below.refl _ _) nq)⟩
end Go.Proofs.YteamhbohgoclgaaGreatDoor
