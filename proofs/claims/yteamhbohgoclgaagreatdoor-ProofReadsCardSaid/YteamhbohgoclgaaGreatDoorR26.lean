/- The certificates of Winnable and of Superstable. -/
import Derived.Test.YteamhbohgoclgaaGreatDoorR25
set_option maxRecDepth 100000
set_option maxHeartbeats 16000000
namespace Go.Proofs.YteamhbohgoclgaaGreatDoor
open Go.RowKit Go.Shelf

theorem catS_nodup {n q : Nat} {es : List Tri} {cs : List Int} {xs : List Nat} (h6 : n <= 6) (h : catS n q es cs xs) : ∀ k, k <= xs.length -> unb n (blOf q (xs.take k)) + k <= n := by
 intro k
 induction k with
 | zero => intro _; have := countN_le n fun u => !fnB (blOf q (xs.take 0)) u; unfold unb; omega
 | succ k ih =>
   intro hk
   have h1 := ih (by omega)
   obtain ⟨h2, h3⟩ := h k (by omega)
   have h4 : xs.take (k + 1) = xs.take k ++ [xs.getD k 0] := by
     rw [List.take_add_one, List.getD_eq_getElem?_getD, List.getElem?_eq_getElem (by omega)]; rfl
   unfold catchB at h3
   simp only [Bool.and_eq_true, Bool.not_eq_true'] at h3
   have h5 := unb_set (blOf_len q (xs.take k)) h2 (by omega) h3.1
   rw [h4, blOf_snoc]
   omega
theorem catS_len {n q : Nat} {es : List Tri} {cs : List Int} {xs : List Nat} (h6 : n <= 6) (h : catS n q es cs xs) : (xs.map (fun x : Nat => (x : Int))).length <= 1000 := by
 have := catS_nodup h6 h xs.length (Nat.le_refl _)
 rw [List.length_map]; omega
theorem Winnable_any (g d : Value) (n : Nat) (es : List Tri) (zs : List Int) (w : World) (hg : GV w g n es) (hr : Rt n es) (hd : RI w d zs) (h3 : checkE zs n = 0) (hl : Lw n zs) :
   Calls Tryz.prog 109 #[g, d] w fun e w' => ∃ (A1 : Option Addr) (l1 c1 : Nat) (A2 : Option Addr) (l2 c2 : Nat) (r s : List Int), e = .returned (.tuple #[.bool (decide (0 <= r.getD 0 0)), .slice A1 l1 c1, .slice A2 l2 c2, .int .i64 0]) /\ OI w' w.heap.size (.slice A1 l1 c1) r /\ OI w' w.heap.size (.slice A2 l2 c2) s /\ Red n 0 es zs r s /\ Below w.heap.size w w' := by
 have hn1 := hr.n1
 have HRe : Hid (∀ W, Below w.heap.size w W -> Calls Tryz.prog 152 #[g, .int .i64 0, d] W fun e w' => ∃ vr vs r s, e = .returned (.tuple #[vr, vs, .int .i64 0]) /\ OI w' W.heap.size vr r /\ OI w' W.heap.size vs s /\ Red n 0 es zs r s /\ Below W.heap.size W w') := fun W h => hr.reduce g d zs W (hg.below h) (RI.below hd h) h3 hl
 obtain ⟨A, c, rfl, -⟩ := hg.open_
 obtain ⟨W0, hW0⟩ : ∃ W0, W0 = w.alloc (.cells #[.int .i64 n, .slice A es.length c] 25) := ⟨_, rfl⟩
 have hb0 : Below w.heap.size w W0 := by rw [hW0]; exact below_alloc w _
 have hx0 : BL W0 w.heap.size 25 [.int .i64 n, .slice A es.length c] := by rw [hW0]; exact BL.new' w _ _
 have c0 := hx0.cell 0
 have c1 := hx0.cell 1
 have HX0 := Hd hx0
 have HG0 := Hd (hg.below hb0)
 have HB0 := Hd hb0
 have HW0 := Hd hW0
 rw [hW0] at c0 c1
 clear hg hx0 hW0
 have HR0 := Hd (HRe.out W0 HB0.out)
 have HS0 := Hd HB0.out.size
 have x0 := HX0.out.cell 0
 have x1 := HX0.out.cell 1
 obtain ⟨Ad, cd, rfl, -⟩ := hd.open_
 clear c0 c1 HRe hd h3 hl hr
 go_enter Tryz.func109, Tryz.ntmps109
 go_upto_region 1 with fail
 rw [<- HW0.out]
 go_wp2_with fail
 refine HR0.out.mono ?_
 rintro e w2 ⟨vr, vs, r, s, rfl, hor, hos, hred, hb2⟩
 have HB2 := Hd (HB0.out.trans (hb2.mono HB0.out.size))
 have hrl := hred.rl
 obtain ⟨Ar, cr, rfl, -, -, hcr⟩ := hor.ri.open_
 obtain ⟨As, cs, rfl, -, -, -⟩ := hos.ri.open_
 obtain ⟨ad, z, rfl, had, hz, hcz⟩ := hcr 0 (by omega)
 rw [add_zero'] at hcz
 have HOr := Hd (OV.mono hor HS0.out)
 have HOs := Hd (OV.mono hos HS0.out)
 have HRd := Hd hred
 have HZ : Hid (z = r.getD 0 0) := by show _ = _; rw [List.getD_eq_getElem?_getD, hz.out]; rfl
 have hl0 : (0 : Int) < (r.length : Int) := by omega
 clear hor hos hred hb2 hcr hz HR0 x0 x1 hrl
 go_wp2
 go_returns
 exact ⟨_, _, _, _, _, _, r, s, by rw [<- HZ.out] <;> rfl, HOr.out, HOs.out, HRd.out, HB2.out⟩
def WnP (n : Nat) (es : List Tri) (zs : List Int) (er : Int) (L : List Int) : Prop := ∃ r, Red n 0 es zs r L /\ er = if 0 <= r.getD 0 0 then 0 else 16
theorem winnable1_any (g vb vf : Value) (Aa : Option Addr) (ca : Nat) (n : Nat) (es : List Tri) (zs : List Int) (kk Q N : Int) (w : World) (hg : GV w g n es) (hr : Rt n es) (hd : RI w (.slice Aa zs.length ca) zs) (h3 : checkE zs n = 0) (hl : Lw n zs) (hvb : ∃ A n c, vb = .slice A n c) (hvf : ∃ A n c, vf = .slice A n c) :
   Calls Tryz.prog 78 #[g, .agg #[.int .i64 kk, .int .i64 Q, .int .i64 N, .slice Aa zs.length ca, vb, vf]] w fun e w' => MkQ (WnP n es zs) w e w' := by
 obtain ⟨va, hva⟩ : ∃ v : Value, v = .slice Aa zs.length ca := ⟨_, rfl⟩
 have hd0 := hd
 have HWi : Hid (∀ W, Below w.heap.size w W -> Calls Tryz.prog 109 #[g, va] W fun e w' => ∃ (A1 : Option Addr) (l1 c1 : Nat) (A2 : Option Addr) (l2 c2 : Nat) (r s : List Int), e = .returned (.tuple #[.bool (decide (0 <= r.getD 0 0)), .slice A1 l1 c1, .slice A2 l2 c2, .int .i64 0]) /\ OI w' W.heap.size (.slice A1 l1 c1) r /\ OI w' W.heap.size (.slice A2 l2 c2) s /\ Red n 0 es zs r s /\ Below W.heap.size W w') := fun W h => by
   rw [hva]; exact Winnable_any g _ n es zs W (hg.below h) hr (RI.below hd h) h3 hl
 rw [<- hva]
 have h6 := hr.n6
 have H6 := Hd h6
 obtain ⟨A, c, rfl, -⟩ := hg.open_
 obtain ⟨W0, hW0⟩ : ∃ W0, W0 = (w.alloc (.cells #[.int .i64 n, .slice A es.length c] 25)).alloc (.cells #[.int .i64 kk, .int .i64 Q, .int .i64 N, va, vb, vf] 40) := ⟨_, rfl⟩
 have hb0 : Below w.heap.size w W0 := by rw [hW0]; exact (below_alloc w _).alloc (by simp) _
 have hxg : BL W0 w.heap.size 25 [.int .i64 n, .slice A es.length c] := by rw [hW0]; exact (BL.new' w _ _).alloc _
 have hxc : BL W0 (w.heap.size + 1) 40 [.int .i64 kk, .int .i64 Q, .int .i64 N, va, vb, vf] := by
   rw [hW0]
   have := BL.new' (w.alloc (.cells #[.int .i64 n, .slice A es.length c] 25)) #[.int .i64 kk, .int .i64 Q, .int .i64 N, va, vb, vf] 40
   rwa [World.size_alloc] at this
 have HXg := Hd hxg
 have HXc := Hd hxc
 have HG0 := Hd (hg.below hb0)
 have HB0 := Hd hb0
 have HW0 := Hd hW0
 clear hg hxg hxc hW0 hb0
 subst hva
 obtain ⟨Ab, lb, cb, rfl⟩ := hvb
 obtain ⟨Af, lf, cf, rfl⟩ := hvf
 have HW1 := Hd (HWi.out W0 HB0.out)
 have g0 := HXg.out.cell 0
 have g1 := HXg.out.cell 1
 have d3 := HXc.out.cell 3
 clear HWi hd hd0 h3 hl hr
 go_enter Tryz.func78, Tryz.ntmps78
 go_upto_region 1 with fail
 rw [<- HW0.out]
 go_wp2_with fail
 refine HW1.out.mono ?_
 rintro e w2 ⟨A1, l1, c1, A2, l2, c2, r, s, rfl, hor, hos, hred, hb2⟩
 have HB2 := Hd (HB0.out.trans (hb2.mono HB0.out.size))
 have HOs := Hd hos.ri
 have HLs : Hid (s.length <= 1000) := by show _ <= _; have := hred.sl; omega
 have HBs : Hid (∀ z ∈ s, -1048576 <= z /\ z <= 1048576) := fun z hz => by
   obtain ⟨v, hv, rfl⟩ := List.getElem_of_mem hz
   have := hred.sb v (by have := hred.sl; omega)
   rwa [List.getD_eq_getElem?_getD, List.getElem?_eq_getElem hv] at this
 by_cases h0 : 0 <= r.getD 0 0
 · have HP : Hid (WnP n es zs 0 s) := ⟨r, hred, by rw [if_pos h0]⟩
   rw [decide_eq_true h0]
   clear hor hos hred hb2 h0 HW1
   go_wp2
   go_ret2
   exact ⟨_, _, _, 0, s, rfl, HP.out, fun _ => ⟨HOs.out, HLs.out, HBs.out⟩, HB2.out⟩
 · have HP : Hid (WnP n es zs 16 s) := ⟨r, hred, by rw [if_neg h0]⟩
   rw [decide_eq_false h0]
   clear hor hos hred hb2 h0 HW1
   go_wp2
   go_ret2
   exact ⟨_, _, _, 16, s, rfl, HP.out, fun h => absurd h (by decide), HB2.out⟩
def SsP (n q : Nat) (es : List Tri) (cs : List Int) (er : Int) (L : List Int) : Prop :=
 (er = 0 /\ Cf n q cs /\ Tight n (wgt es) q (fnD cs) /\ ∃ xs : List Nat, L = xs.map (fun x : Nat => (x : Int)) /\ catF n q es cs xs) \/ (er = 16 /\ ¬ (Cf n q cs /\ Tight n (wgt es) q (fnD cs)))
theorem superst1_any (g vb vf : Value) (Aa : Option Addr) (ca : Nat) (n q : Nat) (es : List Tri) (cs : List Int) (kk N : Int) (w : World) (hg : GV w g n es) (hr : Rt n es) (hq : q < n) (hd : RI w (.slice Aa cs.length ca) cs) (hl : cs.length = n) (hb : ∀ v, v < n -> cs.getD v 0 <= 1048576) (hvb : ∃ A n c, vb = .slice A n c) (hvf : ∃ A n c, vf = .slice A n c) :
   Calls Tryz.prog 83 #[g, .agg #[.int .i64 kk, .int .i64 (q : Int), .int .i64 N, .slice Aa cs.length ca, vb, vf]] w fun e w' => MkQ (SsP n q es cs) w e w' := by
 obtain ⟨va, hva⟩ : ∃ v : Value, v = .slice Aa cs.length ca := ⟨_, rfl⟩
 have HBu : Hid (∀ W, Below w.heap.size w W -> Calls Tryz.prog 84 #[g, .int .i64 (q : Int), va] W fun e w' => MkQ (SsP n q es cs) W e w') := fun W h => by
   rw [hva]
   refine (burns_any g _ n q es cs W (hg.below h) hr hq (RI.below hd h) hl hb).mono ?_
   rintro e w' ⟨A0, l0, c0, er, rfl, hh, hb'⟩
   rcases hh with ⟨rfl, h1, h2, xs, h4, h5⟩ | ⟨rfl, h1⟩
   · have h6 := hr.n6
     have hlt : ∀ i, i < xs.length -> xs.getD i 0 < n := fun i hi => (h5.1 i hi).1
     refine ⟨A0, l0, c0, 0, xs.map (fun x : Nat => (x : Int)), rfl, .inl ⟨rfl, h1, h2, xs, rfl, h5⟩, fun _ => ⟨h4, ?_, ?_⟩, hb'⟩
     · exact catS_len h6 h5.1
     · intro z hz
       obtain ⟨x, hx, rfl⟩ := List.mem_map.1 hz
       obtain ⟨i, hi, rfl⟩ := List.getElem_of_mem hx
       have := hlt i hi
       rw [List.getD_eq_getElem?_getD, List.getElem?_eq_getElem hi] at this
       simp only [Option.getD_some] at this
       omega
   · exact ⟨A0, l0, c0, 16, [], rfl, .inr ⟨rfl, h1⟩, fun h => absurd h (by decide), hb'⟩
 rw [<- hva]
 obtain ⟨Q, hQ⟩ : ∃ Q, Q = (q : Int) := ⟨_, rfl⟩
 rw [<- hQ]
 rw [<- hQ] at HBu
 obtain ⟨A, c, rfl, -⟩ := hg.open_
 obtain ⟨W0, hW0⟩ : ∃ W0, W0 = (w.alloc (.cells #[.int .i64 n, .slice A es.length c] 25)).alloc (.cells #[.int .i64 kk, .int .i64 Q, .int .i64 N, va, vb, vf] 40) := ⟨_, rfl⟩
 have hb0 : Below w.heap.size w W0 := by rw [hW0]; exact (below_alloc w _).alloc (by simp) _
 have hxg : BL W0 w.heap.size 25 [.int .i64 n, .slice A es.length c] := by rw [hW0]; exact (BL.new' w _ _).alloc _
 have hxc : BL W0 (w.heap.size + 1) 40 [.int .i64 kk, .int .i64 Q, .int .i64 N, va, vb, vf] := by
   rw [hW0]
   have := BL.new' (w.alloc (.cells #[.int .i64 n, .slice A es.length c] 25)) #[.int .i64 kk, .int .i64 Q, .int .i64 N, va, vb, vf] 40
   rwa [World.size_alloc] at this
 have HXg := Hd hxg
 have HXc := Hd hxc
 have HG0 := Hd (hg.below hb0)
 have HB0 := Hd hb0
 have HW0 := Hd hW0
 clear hg hxg hxc hW0 hb0
 subst hva
 obtain ⟨Ab, lb, cb, rfl⟩ := hvb
 obtain ⟨Af, lf, cf, rfl⟩ := hvf
 have HW1 := Hd (HBu.out W0 HB0.out)
 have g0 := HXg.out.cell 0
 have g1 := HXg.out.cell 1
 have d1 := HXc.out.cell 1
 have d3 := HXc.out.cell 3
 clear HBu hd hl hr hb hQ
 go_enter Tryz.func83, Tryz.ntmps83
 go_upto_region 1 with fail
 rw [<- HW0.out]
 go_wp2_with fail
 refine HW1.out.mono ?_
 rintro e w2 ⟨A0, l0, c0, er, L, rfl, hp, hL, hb2⟩
 have HB2 := Hd (HB0.out.trans (hb2.mono HB0.out.size))
 have HP := Hd hp
 have HL := Hd hL
 clear hp hL hb2 HW1
 go_wp2
 go_ret2
 exact ⟨A0, l0, c0, er, L, rfl, HP.out, HL.out, HB2.out⟩

theorem nums_bd {ws : List (List UInt8)} (h : numsE ws = 0) : Bd 2000000 (numsV ws) := by
 unfold numsE at h
 by_cases h1 : ws.all canB = false
 · rw [if_pos h1] at h; cases h
 · rw [if_neg h1] at h
   by_cases h2 : ws.all (fun s => decide (-1048576 <= wv s) && decide (wv s <= 1048576)) = false
   · rw [if_pos h2] at h; cases h
   · have h3 : ws.all (fun s => decide (-1048576 <= wv s) && decide (wv s <= 1048576)) = true := by simpa using h2
     intro j
     unfold numsV
     rw [List.getD_eq_getElem?_getD, List.getElem?_map]
     cases hx : ws[j]? with
     | none => simp
     | some x =>
       have := List.all_eq_true.1 h3 x (List.mem_of_getElem? hx)
       simp only [Bool.and_eq_true, decide_eq_true_eq] at this
       simp only [Option.map_some, Option.getD_some]
       omega
theorem numsV_len (ws : List (List UInt8)) : (numsV ws).length = ws.length := by simp [numsV]
theorem Bd.l1 {S : Int} {l : List Int} (h : Bd S l) (h0 : 0 <= S) (q : Bool) : Bd S (l1L q l) := by
 cases q
 · exact h
 · have := h.sub h0 1 l.length
   rwa [List.take_of_length_le (Nat.le_refl _)] at this
theorem Bd.nil {S : Int} (h0 : 0 <= S) : Bd S [] := fun v => by simp; omega
theorem Bd.fA {S : Int} {l : List Int} (h : Bd S l) (h0 : 0 <= S) (m : Nat) (b f : Bool) : Bd S (fA m b f l) := by
 unfold Go.Proofs.YteamhbohgoclgaaGreatDoor.fA
 split
 · exact Bd.nil h0
 · split
   · have := h.sub h0 0 m
     rwa [List.drop_zero] at this
   · exact h
theorem Bd.fB {S : Int} {l : List Int} (h : Bd S l) (h0 : 0 <= S) (m : Nat) (b f : Bool) : Bd S (fB m b f l) := by
 unfold Go.Proofs.YteamhbohgoclgaaGreatDoor.fB
 split
 · exact Bd.nil h0
 · split
   · have := h.sub h0 m l.length
     rwa [List.take_of_length_le (Nat.le_refl _)] at this
   · exact Bd.nil h0
theorem Bd.fF {S : Int} {l : List Int} (h : Bd S l) (h0 : 0 <= S) (f : Bool) : Bd S (fF f l) := by
 unfold Go.Proofs.YteamhbohgoclgaaGreatDoor.fF
 split
 · have := h.sub h0 1 l.length
   rwa [List.take_of_length_le (Nat.le_refl _)] at this
 · exact Bd.nil h0
theorem fill_len {m : Nat} {q n b f : Bool} {l : List Int} (h : fillE m q n b f l = 0) (hf : f = false) : (fA m b f (l2L q n l)).length = m /\ (b = true -> (fB m b f (l2L q n l)).length = m) := by
 subst hf
 unfold fillE at h
 split at h
 · cases h
 · split at h
   · cases h
   · rw [if_neg (by simp)] at h
     cases b
     · rw [if_neg (by simp)] at h
       refine ⟨?_, fun h => by cases h⟩
       split at h
       · cases h
       · show (l2L q n l).length = m
         omega
     · rw [if_pos rfl] at h
       split at h
       · cases h
       · refine ⟨?_, fun _ => ?_⟩
         · show ((l2L q n l).take m).length = m
           rw [List.length_take]; omega
         · show ((l2L q n l).drop m).length = m
           rw [List.length_drop]; omega
theorem RS.sub {w : World} {a : Addr} {n c : Nat} {l : List (List UInt8)} (h : RS w (.slice (some a) n c) l) {i j : Nat} (hi : i <= j) (hj : j <= l.length) : RS w (.slice (if c = i then some a else some (a.add i)) (j - i) (c - i)) ((l.take j).drop i) := by
 obtain ⟨A, c', he, h2, h3, h4⟩ := h
 simp only [List.length_map, Value.slice.injEq] at he h2 h3 h4
 obtain ⟨rfl, rfl, rfl⟩ := he
 have hl : (((l.take j).drop i).map strV).length = j - i := by rw [List.length_map, List.length_drop, List.length_take]; omega
 refine ⟨if c = i then some a else some (a.add i), c - i, by rw [hl], by rw [hl]; omega, by rw [hl]; omega, fun k hk => ?_⟩
 rw [hl] at hk
 have hci : c ≠ i := by omega
 rw [if_neg hci]
 obtain ⟨ad, e, hb, hc⟩ := h4 (i + k) (by omega)
 cases e
 refine ⟨_, rfl, by rw [block_of_add]; exact hb, ?_⟩
 have e2 : (a.add i).add k = a.add (i + k) := by
   unfold Addr.add
   by_cases h0 : i = 0
   · subst h0; simp
   · by_cases h1 : k = 0
     · subst h1; simp
     · rw [if_neg h0, if_neg h1, if_neg (by omega)]; simp [Nat.add_assoc]
 rw [e2, hc]
 rw [List.getElem?_map, List.getElem?_map, List.getElem?_drop, List.getElem?_take_of_lt (by omega)]

def flatE (es : List Tri) : List Value := es.flatMap fun p => [.int .i64 p.1, .int .i64 p.2.1, .int .i64 p.2.2]
theorem flatE_get : ∀ (ps : List Tri) (k : Nat) (p : Tri), ps[k]? = some p -> (flatE ps)[k * 3]? = some (.int .i64 p.1) /\ (flatE ps)[k * 3 + 1]? = some (.int .i64 p.2.1) /\ (flatE ps)[k * 3 + 2]? = some (.int .i64 p.2.2) := by
 intro ps
 induction ps with
 | nil => intro k p h; simp at h
 | cons q r ih =>
   intro k p h
   cases k with
   | zero => simp only [List.getElem?_cons_zero, Option.some.injEq] at h; subst h; simp [flatE]
   | succ k =>
     simp only [List.getElem?_cons_succ] at h
     obtain ⟨h1, h2, h3⟩ := ih k p h
     have e : flatE (q :: r) = .int .i64 q.1 :: .int .i64 q.2.1 :: .int .i64 q.2.2 :: flatE r := by simp [flatE]
     rw [e, show (k + 1) * 3 = k * 3 + 1 + 1 + 1 by omega]
     simp only [List.getElem?_cons_succ]
     exact ⟨h1, h2, h3⟩
def OE (w : World) (B : Nat) (v : Value) (ps : List Tri) : Prop := w.ownsRow B 68 3 v ps.length (flatE ps) /\ ps.length <= 1000000
theorem OE.below {w w' : World} {B : Nat} {v : Value} {ps : List Tri} (h : OE w B v ps) (hb : Below w.heap.size w w') : OE w' B v ps :=
 ⟨h.1.kept (row := none) ⟨hb.os, hb.tape, hb.output, hb.size, fun k hk _ => hb.block k hk⟩ (by cases v.ownBlock <;> simp), h.2⟩
theorem OE.nil_ (w : World) (B : Nat) : OE w B (.slice none 0 0) [] := ⟨World.ownsRow_nil w B _ 3, by simp⟩
theorem OE.shape {w : World} {B : Nat} {v : Value} {ps : List Tri} (h : OE w B v ps) : ∃ A c, v = .slice A ps.length c := by
 rcases h.1.2 with ⟨rfl, hn⟩ | ⟨g, cap, cur, rfl, _⟩
 · exact ⟨none, 0, by rw [hn]⟩
 · exact ⟨_, cap, rfl⟩
theorem OE.shape1 {w : World} {B : Nat} {v : Value} {ps : List Tri} (h : OE w B v ps) (hl : 1 <= ps.length) : ∃ g cap, v = .slice (some ⟨g, 0, none⟩) ps.length cap /\ B <= g /\ g < w.heap.size := by
 rcases h.1.2 with ⟨_, hn⟩ | ⟨g, cap, cur, rfl, hg, hh, _⟩
 · omega
 · exact ⟨g, cap, rfl, hg, lt_of_block hh⟩
theorem OE.block_ {w : World} {B : Nat} {v : Value} {ps : List Tri} (h : OE w B v ps) {g : Nat} (hg : v.ownBlock = some g) : ∃ cur, w.heap[g]? = some (.cells cur 68 (0, 0)) /\ B <= g /\ g < w.heap.size := by
 rcases h.1.2 with ⟨rfl, _⟩ | ⟨g', cap, cur, rfl, hB, hh, _⟩
 · simp [Value.ownBlock] at hg
 · simp only [Value.ownBlock, Option.some.injEq] at hg
   subst hg
   exact ⟨cur, hh, hB, lt_of_block hh⟩
theorem OE.keepG {w w' : World} {B : Nat} {v : Value} {ps : List Tri} (h : OE w B v ps) (hk : ∀ g, v.ownBlock = some g -> w'.heap[g]? = w.heap[g]?) : OE w' B v ps := by
 refine ⟨⟨h.1.1, ?_⟩, h.2⟩
 rcases h.1.2 with h2 | ⟨g, cap, cur, hv, hg, hh, r'⟩
 · exact .inl h2
 · exact .inr ⟨g, cap, cur, hv, hg, (hk g (by rw [hv]; rfl)).trans hh, r'⟩
theorem OE.ne_bl {w : World} {B b : Nat} {v : Value} {ps : List Tri} {T : TypeId} {us : List Value} (h : OE w B v ps) (hb : BL w b T us) (hT : T ≠ 68) {g : Nat} (hg : v.ownBlock = some g) : g ≠ b := by
 rintro rfl
 obtain ⟨c, hc, _⟩ := h.block_ hg
 unfold BL at hb; rw [hb] at hc; simp only [Option.some.injEq, Obj.cells.injEq] at hc; exact hT hc.2.1
theorem OE.set {w : World} {B b : Nat} {v : Value} {ps : List Tri} {T : TypeId} {us : List Value} (h : OE w B v ps) (hb : BL w b T us) (hT : T ≠ 68) (i : Nat) (x : Value) : OE (w.setCell ⟨b, i, none⟩ x) B v ps := by
 refine h.keepG fun g hg => ?_
 exact heap_setCell_other w _ g x (fun e => h.ne_bl hb hT hg e)
theorem run_append_tri {P : Program} (w : World) (t ty : TypeId) (i : TypeInfo) (z : Value) (bytes : Nat) (ht : P.underlying t = some (.slice 68)) (hi : P.info? 68 = some i) (hz : i.zero = some z)
   (hsize : i.size = 3) (hby : i.bytes = bytes) (hby2 : bytes <= 1000) (hzs : z.cells.size = 3) (B : Nat) (v : Value) (ps : List Tri) (hown : OE w B v ps) (a b c : Int) (hb : ps.length <= 999999) (hB : B <= w.heap.size) :
   ∃ g cap w', (Builtin.append_ #[t, t] ty #[v, .slice (some ⟨w.heap.size, 0, none⟩) 1 1]).run P (w.alloc (.cells #[.int .i64 a, .int .i64 b, .int .i64 c] 68)) = .ok (.slice (some ⟨g, 0, none⟩) (ps.length + 1) cap) w' /\
     OE w' B (.slice (some ⟨g, 0, none⟩) (ps.length + 1) cap) (ps ++ [(a, b, c)]) /\ (w.alloc (.cells #[.int .i64 a, .int .i64 b, .int .i64 c] 68)).grownBy w' v.ownBlock /\ (v.ownBlock = some g \/ g = w.heap.size + 1) := by
 have hm : (ps.length + 1) * bytes <= 1000001 * 1000 := Nat.mul_le_mul (by omega) hby2
 obtain ⟨v', w', hrun, ho, hg, -, hat⟩ := run_append_own_at (P := P) (w.alloc (.cells #[.int .i64 a, .int .i64 b, .int .i64 c] 68)) B t ty 68 i z 3 bytes ht hi hz hsize hby hzs (by omega) v ps.length (flatE ps) (OE.below hown (below_alloc w _)).1
   ⟨w.heap.size, 0, none⟩ 1 1 [.int .i64 a, .int .i64 b, .int .i64 c] rfl (fun j u hu => by
     have h := (BL.new' w #[.int .i64 a, .int .i64 b, .int .i64 c] 68).cell j
     have e : (⟨w.heap.size, 0, none⟩ : Addr).add j = ⟨w.heap.size, j, none⟩ := by unfold Addr.add; split <;> simp_all
     rw [e, h]; exact hu) (fun u hu => by
     simp only [List.mem_cons, List.not_mem_nil, or_false] at hu
     rcases hu with rfl | rfl | rfl <;> rfl) (by unfold maxLen; omega) (by omega) (by simp; omega)
 have hown' : OE w' B v' (ps ++ [(a, b, c)]) := ⟨by simpa [flatE] using ho, by simp; omega⟩
 obtain ⟨g, cap, rfl, -, -⟩ := hown'.shape1 (by simp)
 simp only [List.length_append, List.length_singleton] at hrun hown'
 refine ⟨g, cap, w', hrun, hown', hg, ?_⟩
 rcases hat with h | h
 · exact .inl (by rw [<- h]; rfl)
 · right
   simp only [Value.ownBlock, World.size_alloc, Option.some.injEq] at h
   exact h
theorem edge_info : (Tryz.prog.info? 68).map (fun i => (i.zero, i.size, i.bytes)) = some (some (.agg #[.int .i64 0, .int .i64 0, .int .i64 0]), 3, 24) := by kernel_rfl
theorem OE.ev {w : World} {B : Nat} {v : Value} {ps : List Tri} (h : OE w B v ps) : EV w v ps := by
 have hlen := h.2
 rcases h.1.2 with ⟨rfl, hn⟩ | ⟨g, cap, cur, rfl, _, hh, hc, _⟩
 · exact ⟨none, 0, by rw [hn], by omega, by omega, fun k hk => by omega⟩
 · refine ⟨_, cap, rfl, by omega, by omega, fun k hk => ?_⟩
   obtain ⟨h1, h2, h3⟩ := flatE_get ps k ps[k] (List.getElem?_eq_getElem hk)
   refine ⟨⟨g, 0, none⟩, ps[k].1, ps[k].2.1, ps[k].2.2, rfl, lt_of_block hh, List.getElem?_eq_getElem hk, ?_, ?_, ?_⟩
   · rw [addr_addz, h.1.cellAt _ (by omega)]; exact h1
   · rw [addr_addz]; show w.cell? ⟨g, k * 3 + 1, none⟩ = _; rw [h.1.cellAt _ (by omega)]; exact h2
   · rw [addr_addz]; show w.cell? ⟨g, k * 3 + 2, none⟩ = _; rw [h.1.cellAt _ (by omega)]; exact h3

def tornB (s : List UInt8) : Bool := decide ((splitL 10 s).length = 1) || decide ((splitL 10 s).getD ((splitL 10 s).length - 1) [] ≠ [])
def linesE (s : List UInt8) : Int := if 65536 < s.length then 19 else if tornB s = true then 20 else 0
def linesN (s : List UInt8) : Int := if 65536 < s.length then 0 else if tornB s = true then (((splitL 10 s).length - 1 : Nat) : Int) else 0
def linesV (s : List UInt8) : List (List UInt8) := (splitL 10 s).take ((splitL 10 s).length - 1)
theorem RS.pre {w : World} {a : Addr} {n c : Nat} {l : List (List UInt8)} (h : RS w (.slice (some a) n c) l) {j : Nat} (hj : j <= l.length) : RS w (.slice (some a) j c) (l.take j) := by
 obtain ⟨A, c', he, h2, h3, h4⟩ := h
 simp only [List.length_map, Value.slice.injEq] at he h2 h3 h4
 obtain ⟨rfl, rfl, rfl⟩ := he
 have hl : ((l.take j).map strV).length = j := by rw [List.length_map, List.length_take]; omega
 refine ⟨some a, c, by rw [hl], by rw [hl]; omega, by rw [hl]; omega, fun k hk => ?_⟩
 rw [hl] at hk
 obtain ⟨ad, e, hb, hc⟩ := h4 k (by omega)
 refine ⟨ad, e, hb, ?_⟩
 rw [hc, List.getElem?_map, List.getElem?_map, List.getElem?_take_of_lt (by omega)]
theorem str_ne (x : List UInt8) : (ByteArray.mk x.toArray).toList.isEmpty = !decide (x ≠ []) := by
 rw [ByteArray.toList_mk]
 cases x <;> simp

def triL : List Int -> List Tri
 | a :: b :: c :: r => (a, b, c) :: triL r
 | _ => []
def hdW (s : List UInt8) : List Int := numsV ((splitL 32 s).drop 1)
def hdN (s : List UInt8) : Int := (hdW s).getD 0 0
def hdT (s : List UInt8) : List Tri := triL ((hdW s).drop 1)
def hdE (s : List UInt8) : Int :=
 if (splitL 32 s).getD 0 [] ≠ [103, 114, 97, 112, 104] \/ (splitL 32 s).length % 3 ≠ 2 then 4
 else if numsE ((splitL 32 s).drop 1) ≠ 0 then numsE ((splitL 32 s).drop 1) else ofE (hdN s) (hdT s)
theorem triL_snoc (l : List Int) (k : Nat) (a b c : Int) (h : l.drop (3 * k) = a :: b :: c :: l.drop (3 * (k + 1))) : triL (l.take (3 * (k + 1))) = triL (l.take (3 * k)) ++ [(a, b, c)] := by
 induction k generalizing l with
 | zero =>
   simp only [Nat.mul_zero, List.drop_zero] at h
   rw [h]
   simp [triL]
 | succ k ih =>
   match l, h with
   | x :: y :: z :: r, h =>
     have e1 : 3 * (k + 1) = 3 * k + 1 + 1 + 1 := by omega
     have e2 : 3 * (k + 1 + 1) = 3 * (k + 1) + 1 + 1 + 1 := by omega
     rw [e1, e2] at h
     simp only [List.drop_succ_cons] at h
     rw [e1, e2]
     simp only [List.take_succ_cons, triL, List.cons_append]
     rw [ih r h]
   | [], h => have := congrArg List.length h; simp only [List.length_drop, List.length_cons, List.length_nil] at this; omega
   | [x], h => have := congrArg List.length h; simp only [List.length_drop, List.length_cons, List.length_nil] at this; omega
   | [x, y], h => have := congrArg List.length h; simp only [List.length_drop, List.length_cons, List.length_nil] at this; omega
theorem triL_len (l : List Int) (k : Nat) (h : l.length = 3 * k) : (triL l).length = k := by
 induction k generalizing l with
 | zero =>
   have : l = [] := List.length_eq_zero_iff.1 (by omega)
   subst this; rfl
 | succ k ih =>
   match l, h with
   | x :: y :: z :: r, h => simp only [triL, List.length_cons] at h ⊢; rw [ih r (by omega)]
   | [], h => have h' : 0 = 3 * (k + 1) := h; omega
   | [x], h => have h' : 1 = 3 * (k + 1) := h; omega
   | [x, y], h => have h' : 2 = 3 * (k + 1) := h; omega

abbrev Clm := Int × Int × Int × List Int × List Int × List Int
def clmOf (m : Nat) (s : List UInt8) : Clm :=
 let i := (idxG ((splitL 32 s).getD 0 []) kwL).toNat
 let l := numsV (((splitL 32 s).take (idxG [58] (splitL 32 s)).toNat).drop 1)
 (i, fQ (kq i) l, fQ (kn i) (l1L (kq i) l), fA m (kb i) (kf i) (l2L (kq i) (kn i) l), fB m (kb i) (kf i) (l2L (kq i) (kn i) l), fF (kf i) (l2L (kq i) (kn i) l))
def CW (W : World) (r : List Value) (x : Clm) : Prop := ∃ va vb vf, r = [.int .i64 x.1, .int .i64 x.2.1, .int .i64 x.2.2.1, va, vb, vf] /\ RI W va x.2.2.2.1 /\ RI W vb x.2.2.2.2.1 /\ RI W vf x.2.2.2.2.2
def CO (W : World) (B : Nat) (r : List Value) (x : Clm) : Prop := ∃ vl l, OI W B vl l /\ ∀ W', RI W' vl l -> CW W' r x
theorem CO.cw {W : World} {B : Nat} {r : List Value} {x : Clm} (h : CO W B r x) : CW W r x := by
 obtain ⟨vl, l, h1, h2⟩ := h
 exact h2 W h1.ri
theorem CO.below {w w' : World} {B : Nat} {r : List Value} {x : Clm} (h : CO w B r x) (hb : Below w.heap.size w w') : CO w' B r x := by
 obtain ⟨vl, l, h1, h2⟩ := h
 exact ⟨vl, l, h1.below hb, h2⟩
theorem CO.mono {w : World} {B B' : Nat} {r : List Value} {x : Clm} (h : CO w B r x) (hB : B' <= B) : CO w B' r x := by
 obtain ⟨vl, l, h1, h2⟩ := h
 exact ⟨vl, l, OV.mono h1 hB, h2⟩
theorem flat6_get : ∀ (rows : List (List Value)), (∀ r ∈ rows, r.length = 6) -> ∀ (k : Nat) (r : List Value), rows[k]? = some r -> ∀ j, j < 6 -> rows.flatten[k * 6 + j]? = r[j]? := by
 intro rows
 induction rows with
 | nil => intro _ k r h; simp at h
 | cons q rs ih =>
   intro hl k r h j hj
   have hq : q.length = 6 := hl q (by simp)
   cases k with
   | zero =>
     simp only [List.getElem?_cons_zero, Option.some.injEq] at h
     subst h
     rw [List.flatten_cons, List.getElem?_append_left (by omega)]
     congr 1; omega
   | succ k =>
     simp only [List.getElem?_cons_succ] at h
     rw [List.flatten_cons, List.getElem?_append_right (by omega), <- ih (fun r hr => hl r (by simp [hr])) k r h j hj]
     congr 1; omega
theorem flat6_len : ∀ (rows : List (List Value)), (∀ r ∈ rows, r.length = 6) -> rows.flatten.length = rows.length * 6 := by
 intro rows
 induction rows with
 | nil => intro _; rfl
 | cons q rs ih =>
   intro hl
   rw [List.flatten_cons, List.length_append, ih (fun r hr => hl r (by simp [hr])), hl q (by simp), List.length_cons]
   omega
def OC (T : TypeId) (w : World) (B : Nat) (v : Value) (rows : List (List Value)) : Prop := w.ownsRow B T 6 v rows.length rows.flatten /\ rows.length <= 1000000 /\ ∀ r ∈ rows, r.length = 6
theorem OC.below {T : TypeId} {w w' : World} {B : Nat} {v : Value} {rows : List (List Value)} (h : OC T w B v rows) (hb : Below w.heap.size w w') : OC T w' B v rows :=
 ⟨h.1.kept (row := none) ⟨hb.os, hb.tape, hb.output, hb.size, fun k hk _ => hb.block k hk⟩ (by cases v.ownBlock <;> simp), h.2⟩
theorem OC.nil_ (T : TypeId) (w : World) (B : Nat) : OC T w B (.slice none 0 0) [] := ⟨World.ownsRow_nil w B _ 6, by simp, by simp⟩
theorem OC.shape {T : TypeId} {w : World} {B : Nat} {v : Value} {rows : List (List Value)} (h : OC T w B v rows) : ∃ A c, v = .slice A rows.length c := by
 rcases h.1.2 with ⟨rfl, hn⟩ | ⟨g, cap, cur, rfl, _⟩
 · exact ⟨none, 0, by rw [hn]⟩
 · exact ⟨_, cap, rfl⟩
theorem OC.shape1 {T : TypeId} {w : World} {B : Nat} {v : Value} {rows : List (List Value)} (h : OC T w B v rows) (hl : 1 <= rows.length) : ∃ g cap, v = .slice (some ⟨g, 0, none⟩) rows.length cap /\ B <= g /\ g < w.heap.size := by
 rcases h.1.2 with ⟨_, hn⟩ | ⟨g, cap, cur, rfl, hg, hh, _⟩
 · omega
 · exact ⟨g, cap, rfl, hg, lt_of_block hh⟩
theorem OC.block_ {T : TypeId} {w : World} {B : Nat} {v : Value} {rows : List (List Value)} (h : OC T w B v rows) {g : Nat} (hg : v.ownBlock = some g) : ∃ cur, w.heap[g]? = some (.cells cur T (0, 0)) /\ B <= g /\ g < w.heap.size := by
 rcases h.1.2 with ⟨rfl, _⟩ | ⟨g', cap, cur, rfl, hB, hh, _⟩
 · simp [Value.ownBlock] at hg
 · simp only [Value.ownBlock, Option.some.injEq] at hg
   subst hg
   exact ⟨cur, hh, hB, lt_of_block hh⟩
theorem CO.grown {T : TypeId} {w w' : World} {B B' : Nat} {v : Value} {rows : List (List Value)} {r : List Value} {x : Clm} (h : CO w B' r x) (ho : OC T w B v rows) (hT : 3 ≠ T) (hg : w.grownBy w' v.ownBlock) : CO w' B' r x := by
 obtain ⟨vl, l, h1, h2⟩ := h
 refine ⟨vl, l, ?_, h2⟩
 cases hv : v.ownBlock with
 | none => rw [hv] at hg; exact OV.kept' h1 hg (by cases vl.ownBlock <;> simp)
 | some k =>
   rw [hv] at hg
   obtain ⟨cur, hc, -⟩ := ho.block_ hv
   exact OV.keptBox h1 hc hT hg
def RW (T : TypeId) (B : Nat) (w : World) (v : Value) (xs : List Clm) : Prop := ∃ rows, OC T w B v rows /\ rows.length = xs.length /\ ∀ (j : Nat) (r : List Value) (x : Clm), rows[j]? = some r -> xs[j]? = some x -> CO w B r x
theorem RW.below {T : TypeId} {w w' : World} {B : Nat} {v : Value} {xs : List Clm} (h : RW T B w v xs) (hb : Below w.heap.size w w') : RW T B w' v xs := by
 obtain ⟨rows, h1, h2, h3⟩ := h
 exact ⟨rows, h1.below hb, h2, fun j r x hr hx => (h3 j r x hr hx).below hb⟩
theorem RW.nil_ (T : TypeId) (B : Nat) (w : World) : RW T B w (.slice none 0 0) [] := ⟨[], OC.nil_ T w B, rfl, fun j r x hr => by simp at hr⟩
theorem RW.shape {T : TypeId} {w : World} {B : Nat} {v : Value} {xs : List Clm} (h : RW T B w v xs) : ∃ A c, v = .slice A xs.length c := by
 obtain ⟨rows, h1, h2, h3⟩ := h
 rw [<- h2]; exact h1.shape
theorem RW.own {T : TypeId} {w : World} {B : Nat} {v : Value} {xs : List Clm} (h : RW T B w v xs) {k : Nat} (hk : v.ownBlock = some k) : B <= k /\ k < w.heap.size := by
 obtain ⟨rows, h1, h2, h3⟩ := h
 obtain ⟨_, _, h4, h5⟩ := h1.block_ hk
 exact ⟨h4, h5⟩
theorem RW.push {P : Program} {T : TypeId} (w : World) (t ty : TypeId) (i : TypeInfo) (z : Value) (bytes : Nat) (ht : P.underlying t = some (.slice T)) (hi : P.info? T = some i) (hz : i.zero = some z)
   (hsize : i.size = 6) (hby : i.bytes = bytes) (hby2 : bytes <= 1000) (hzs : z.cells.size = 6) (hT : 3 ≠ T) (B : Nat) (v : Value) (xs : List Clm) (hown : RW T B w v xs) (kk Q N : Int) (Aa Ab Af : Option Addr) (na nb nf ca cb cf : Nat) (x : Clm)
   (hx : CO w B [.int .i64 kk, .int .i64 Q, .int .i64 N, .slice Aa na ca, .slice Ab nb cb, .slice Af nf cf] x) (hl : xs.length <= 999999) (hB : B <= w.heap.size) :
   ∃ g cap w', (Builtin.append_ #[t, t] ty #[v, .slice (some ⟨w.heap.size, 0, none⟩) 1 1]).run P (w.alloc (.cells #[.int .i64 kk, .int .i64 Q, .int .i64 N, .slice Aa na ca, .slice Ab nb cb, .slice Af nf cf] T)) = .ok (.slice (some ⟨g, 0, none⟩) (xs.length + 1) cap) w' /\
     RW T B w' (.slice (some ⟨g, 0, none⟩) (xs.length + 1) cap) (xs ++ [x]) /\ (w.alloc (.cells #[.int .i64 kk, .int .i64 Q, .int .i64 N, .slice Aa na ca, .slice Ab nb cb, .slice Af nf cf] T)).grownBy w' v.ownBlock := by
 obtain ⟨rows, h1, h2, h3⟩ := hown
 have hm : (xs.length + 1) * bytes <= 1000001 * 1000 := Nat.mul_le_mul (by omega) hby2
 have hal := below_alloc w (.cells #[.int .i64 kk, .int .i64 Q, .int .i64 N, .slice Aa na ca, .slice Ab nb cb, .slice Af nf cf] T)
 have h1' := h1.below hal
 obtain ⟨v', w', hrun, ho, hg, -, hat⟩ := run_append_own_at (P := P) (w.alloc (.cells #[.int .i64 kk, .int .i64 Q, .int .i64 N, .slice Aa na ca, .slice Ab nb cb, .slice Af nf cf] T)) B t ty T i z 6 bytes ht hi hz hsize hby hzs (by omega) v rows.length rows.flatten h1'.1
   ⟨w.heap.size, 0, none⟩ 1 1 [.int .i64 kk, .int .i64 Q, .int .i64 N, .slice Aa na ca, .slice Ab nb cb, .slice Af nf cf] rfl (fun j u hu => by
     have h := (BL.new' w #[.int .i64 kk, .int .i64 Q, .int .i64 N, .slice Aa na ca, .slice Ab nb cb, .slice Af nf cf] T).cell j
     have e : (⟨w.heap.size, 0, none⟩ : Addr).add j = ⟨w.heap.size, j, none⟩ := by unfold Addr.add; split <;> simp_all
     rw [e, h]; exact hu) (fun u hu => by
     simp only [List.mem_cons, List.not_mem_nil, or_false] at hu
     rcases hu with rfl | rfl | rfl | rfl | rfl | rfl <;> rfl) (by unfold maxLen; omega) (by rw [h2]; omega) (by simp; omega)
 have hown' : OC T w' B v' (rows ++ [[.int .i64 kk, .int .i64 Q, .int .i64 N, .slice Aa na ca, .slice Ab nb cb, .slice Af nf cf]]) := by
   refine ⟨by simpa using ho, by simp; omega, fun r hr => ?_⟩
   rcases List.mem_append.1 hr with h | h
   · exact h1.2.2 r h
   · simp only [List.mem_singleton] at h; subst h; rfl
 obtain ⟨g, cap, rfl, -, -⟩ := hown'.shape1 (by simp)
 simp only [List.length_append, List.length_singleton, h2] at hrun hown'
 refine ⟨g, cap, w', hrun, ⟨_, hown', by simp [h2], fun j r y hr hy => ?_⟩, hg⟩
 by_cases hj : j < xs.length
 · rw [List.getElem?_append_left (by omega)] at hr
   rw [List.getElem?_append_left hj] at hy
   exact ((h3 j r y hr hy).below hal).grown h1' hT hg
 · have hj2 : j = xs.length := by
     have := (List.getElem?_eq_some_iff.1 hy).1
     simp at this; omega
   subst hj2
   rw [List.getElem?_append_right (by omega), h2, Nat.sub_self] at hr
   rw [List.getElem?_append_right (by omega), Nat.sub_self] at hy
   simp only [List.getElem?_cons_zero, Option.some.injEq] at hr hy
   subst hr; subst hy
   exact (hx.below hal).grown h1' hT hg
def CV (w : World) (v : Value) (xs : List Clm) : Prop := ∃ A c, v = .slice A xs.length c /\ xs.length <= c /\ xs.length <= 17592186044415 /\
 ∀ k, k < xs.length -> ∃ ad x va vb vf, A = some ad /\ ad.block < w.heap.size /\ Hid (xs[k]? = some x) /\ w.cell? (ad.add (k * 6)) = some (.int .i64 x.1) /\ w.cell? ⟨(ad.add (k * 6)).block, (ad.add (k * 6)).off + 1, none⟩ = some (.int .i64 x.2.1) /\ w.cell? ⟨(ad.add (k * 6)).block, (ad.add (k * 6)).off + 2, none⟩ = some (.int .i64 x.2.2.1) /\
   w.cell? ⟨(ad.add (k * 6)).block, (ad.add (k * 6)).off + 3, none⟩ = some va /\ w.cell? ⟨(ad.add (k * 6)).block, (ad.add (k * 6)).off + 4, none⟩ = some vb /\ w.cell? ⟨(ad.add (k * 6)).block, (ad.add (k * 6)).off + 5, none⟩ = some vf /\ RI w va x.2.2.2.1 /\ RI w vb x.2.2.2.2.1 /\ RI w vf x.2.2.2.2.2
theorem CV.below {w w' : World} {v : Value} {xs : List Clm} (h : CV w v xs) (hb : Below w.heap.size w w') : CV w' v xs := by
 obtain ⟨A, c, h1, h2, h3, h4⟩ := h
 refine ⟨A, c, h1, h2, h3, fun k hk => ?_⟩
 obtain ⟨ad, x, va, vb, vf, e, hl, ht, c0, c1, c2, c3, c4, c5, ra, rb, rf⟩ := h4 k hk
 have hs := hb.size
 have hl' : (ad.add (k * 6)).block < w.heap.size := by rw [block_of_add]; exact hl
 exact ⟨ad, x, va, vb, vf, e, by omega, ht, (hb.cell hl').trans c0, (hb.cell (p := ⟨(ad.add (k * 6)).block, (ad.add (k * 6)).off + 1, none⟩) hl').trans c1, (hb.cell (p := ⟨(ad.add (k * 6)).block, (ad.add (k * 6)).off + 2, none⟩) hl').trans c2,
   (hb.cell (p := ⟨(ad.add (k * 6)).block, (ad.add (k * 6)).off + 3, none⟩) hl').trans c3, (hb.cell (p := ⟨(ad.add (k * 6)).block, (ad.add (k * 6)).off + 4, none⟩) hl').trans c4, (hb.cell (p := ⟨(ad.add (k * 6)).block, (ad.add (k * 6)).off + 5, none⟩) hl').trans c5, RI.below ra hb, RI.below rb hb, RI.below rf hb⟩
theorem RW.cv {T : TypeId} {w : World} {B : Nat} {v : Value} {xs : List Clm} (h : RW T B w v xs) : CV w v xs := by
 obtain ⟨rows, h1, h2, h3⟩ := h
 have hlen := h1.2.1
 have hgt := flat6_get rows h1.2.2
 have hfl := flat6_len rows h1.2.2
 rcases h1.1.2 with ⟨rfl, hn⟩ | ⟨g, cap, cur, rfl, _, hh, hc, _⟩
 · exact ⟨none, 0, by rw [<- h2, hn], by omega, by omega, fun k hk => by omega⟩
 · refine ⟨_, cap, by rw [h2], by omega, by omega, fun k hk => ?_⟩
   obtain ⟨va, vb, vf, hr, ra, rb, rf⟩ := (h3 k _ _ (List.getElem?_eq_getElem (by omega)) (List.getElem?_eq_getElem hk)).cw
   have hr' : rows[k]? = some [.int .i64 xs[k].1, .int .i64 xs[k].2.1, .int .i64 xs[k].2.2.1, va, vb, vf] := by rw [List.getElem?_eq_getElem (by omega), hr]
   have hce : ∀ j, j < 6 -> w.cell? ⟨g, k * 6 + j, none⟩ = [Value.int .i64 xs[k].1, .int .i64 xs[k].2.1, .int .i64 xs[k].2.2.1, va, vb, vf][j]? := fun j hj => by
     rw [h1.1.cellAt _ (by omega)]
     exact hgt k _ hr' j hj
   refine ⟨⟨g, 0, none⟩, xs[k], va, vb, vf, rfl, lt_of_block hh, List.getElem?_eq_getElem hk, ?_, ?_, ?_, ?_, ?_, ?_, ra, rb, rf⟩
   · rw [addr_addz]; exact hce 0 (by omega)
   · rw [addr_addz]; exact hce 1 (by omega)
   · rw [addr_addz]; exact hce 2 (by omega)
   · rw [addr_addz]; exact hce 3 (by omega)
   · rw [addr_addz]; exact hce 4 (by omega)
   · rw [addr_addz]; exact hce 5 (by omega)
theorem claim_info : (Tryz.prog.info? 40).map (fun i => (i.zero, i.size, i.bytes)) = some (some (.agg #[.int .i64 0, .int .i64 0, .int .i64 0, .slice none 0 0, .slice none 0 0, .slice none 0 0]), 6, 96) := by kernel_rfl
theorem rclaim_info : (Tryz.prog.info? 47).map (fun i => (i.zero, i.size, i.bytes)) = some (some (.agg #[.int .i64 0, .int .i64 0, .int .i64 0, .slice none 0 0, .slice none 0 0, .slice none 0 0]), 6, 96) := by kernel_rfl

def OS (w : World) (B : Nat) (v : Value) (l : List (List UInt8)) : Prop := OV w B 9 v (l.map strV)
theorem OS.below {w w' : World} {B : Nat} {v : Value} {l : List (List UInt8)} (h : OS w B v l) (hb : Below w.heap.size w w') : OS w' B v l := OV.below h hb
theorem OS.snoc {w W : World} {o : Value} {out : List (List UInt8)} (h : OS W w.heap.size o out) (z : List UInt8) (hb : Below w.heap.size w W) :
   OV (W.alloc (.cells #[strV z] 9)) w.heap.size 9 o (out.map strV) /\ RV (W.alloc (.cells #[strV z] 9)) (.slice (some ⟨W.heap.size, 0, none⟩) 1 1) [strV z] /\
     ∀ v1 w3, OV w3 w.heap.size 9 v1 (out.map strV ++ [strV z]) -> (W.alloc (.cells #[strV z] 9)).grownBy w3 o.ownBlock -> OS w3 w.heap.size v1 (out ++ [z]) /\ Below w.heap.size w w3 := by
 have hba := below_alloc W (.cells #[strV z] 9)
 have hov := OV.below h hba
 refine ⟨hov, RV.ones W _ _, fun v1 w3 hown hg => ⟨?_, ?_⟩⟩
 · show OV _ _ _ _ _
   simpa using hown
 · exact below_own (hb.trans (hba.mono hb.size)) (by have := hb.size; have := hba.size; omega) hov hg

def x1 : List UInt8 := [101, 113, 117, 105, 118, 97, 108, 101, 110, 116, 32, 49, 32, 49, 32, 48, 32, 48, 32, 48, 32, 50, 32, 58, 32, 49, 32, 49, 32, 48]
def x2 : List UInt8 := [117, 110, 119, 105, 110, 110, 97, 98, 108, 101, 32, 49, 32, 45, 49, 32, 48, 32, 58, 32, 48, 32, 48, 32, 45, 49, 32, 45, 49, 32, 49, 32, 50]
def x3 : List UInt8 := [115, 117, 112, 101, 114, 115, 116, 97, 98, 108, 101, 32, 48, 32, 48, 32, 49, 32, 48, 32, 58, 32, 50, 32, 49]
def x4 : List UInt8 := [103, 114, 111, 117, 112, 32, 49, 32, 51, 32, 58, 32, 49, 32, 48, 32, 50, 32, 49, 32, 49, 32, 48, 32, 45, 50, 32, 49, 32, 48, 32, 49, 32, 45, 49, 32, 50, 32, 50, 32, 45, 49, 32, 49, 32, 48]
def x5 : List UInt8 := [115, 117, 112, 101, 114, 115, 116, 97, 98, 108, 101, 32, 48, 32, 48, 32, 49, 32, 48, 32, 58, 32, 49, 32, 50]
def y1 : List UInt8 := [103, 114, 97, 112, 104, 32, 51, 32, 48, 32, 49, 32, 49, 32, 48, 32, 50, 32, 49, 32, 49, 32, 50, 32, 49, 10, 101, 113, 117, 105, 118, 97, 108, 101, 110, 116, 32, 49, 32, 49, 32, 48, 32, 48, 32, 48, 32, 50, 32, 58, 32, 49, 32, 49, 32, 48, 10, 115, 117, 112, 101, 114, 115, 116, 97, 98, 108, 101, 32, 48, 32, 48, 32, 49, 32, 48, 32, 58, 32, 50, 32, 49, 10]
def y2 : List UInt8 := [103, 114, 97, 112, 104, 32, 49, 10, 119, 105, 110, 110, 97, 98, 108, 101, 32, 51, 32, 58, 32, 48, 10]
def y3 : List UInt8 := [103, 114, 97, 112, 104, 32, 49, 10, 119, 105, 110, 110, 97, 98, 108, 101, 32, 51, 32, 58, 32, 48, 10, 119, 105, 110, 110]

theorem gq3 (w : World) : GV (w.alloc (.cells #[.int .i64 0, .int .i64 1, .int .i64 1, .int .i64 0, .int .i64 2, .int .i64 1, .int .i64 1, .int .i64 2, .int .i64 1] 68)) (.agg #[.int .i64 3, .slice (some ⟨w.heap.size, 0, none⟩) 3 3]) 3 es3 := by
 refine ⟨_, rfl, some ⟨w.heap.size, 0, none⟩, 3, rfl, by decide, by decide, fun k hk => ?_⟩
 have hk : k < 3 := hk
 match k, hk with
 | 0, _ => exact ⟨_, 0, 1, 1, rfl, by simp, rfl, by simp [Addr.add], by simp [Addr.add], by simp [Addr.add]⟩
 | 1, _ => exact ⟨_, 0, 2, 1, rfl, by simp, rfl, by simp [Addr.add], by simp [Addr.add], by simp [Addr.add]⟩
 | 2, _ => exact ⟨_, 1, 2, 1, rfl, by simp, rfl, by simp [Addr.add], by simp [Addr.add], by simp [Addr.add]⟩

def usB (k f : Nat) : Bool := ([kq k, kn k, ka k, kb k, kf k] : List Bool).getD f false
theorem Word_any (k : Nat) (hk : k < 9) (w : World) : Calls Tryz.prog 62 #[.int .i64 (k : Int)] w fun e w' => e = .returned (strV (kwL.getD k [])) /\ Below w.heap.size w w' := by
 obtain rfl | rfl | rfl | rfl | rfl | rfl | rfl | rfl | rfl : k = 0 \/ k = 1 \/ k = 2 \/ k = 3 \/ k = 4 \/ k = 5 \/ k = 6 \/ k = 7 \/ k = 8 := by omega
 all_goals
   go_enter Tryz.func62, Tryz.ntmps62
   go_wp2
   go_ret
   exact ⟨rfl, below_alloc w _⟩
theorem uses_any (k f : Nat) (hk : k < 9) (hf : f < 5) (w : World) : Calls Tryz.prog 61 #[.int .i64 (k : Int), .int .i64 (f : Int)] w fun e w' => e = .returned (.bool (usB k f)) /\ Below w.heap.size w w' := by
 obtain rfl | rfl | rfl | rfl | rfl | rfl | rfl | rfl | rfl : k = 0 \/ k = 1 \/ k = 2 \/ k = 3 \/ k = 4 \/ k = 5 \/ k = 6 \/ k = 7 \/ k = 8 := by omega
 all_goals
   obtain rfl | rfl | rfl | rfl | rfl : f = 0 \/ f = 1 \/ f = 2 \/ f = 3 \/ f = 4 := by omega
   all_goals
     go_enter Tryz.func61, Tryz.ntmps61
     go_wp2
     go_ret
     exact ⟨rfl, below_alloc w _⟩
end Go.Proofs.YteamhbohgoclgaaGreatDoor
