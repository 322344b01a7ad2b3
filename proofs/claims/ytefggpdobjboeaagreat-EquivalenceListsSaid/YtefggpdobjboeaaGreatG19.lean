/- Contract of superstable's configurations: the closure from.
   Contract of superstable's configurations: the iterator. -/
import Derived.Test.YtefggpdobjboeaaGreatG18
namespace Go.Proofs.YtefggpdobjboeaaGreat
open Go.RowKit Go.Shelf
attribute [local go_sem] Oper.semAt_some

theorem yieldAt_any {m m' : Nat} {P : Program} {l : Nat} {args : Array Value} {W : World} {R : Ending → World → Prop} (h : YieldAt Fence.wide m P l args W R) : YieldAt Fence.wide m' P l args W R := by
  obtain ⟨fn, tmps, assign, body, h1, h2, h3⟩ := h
  exact ⟨fn, tmps, assign, body, h1, h2, fun c cs _ => h3 c cs (room_wide _)⟩
/-- What the closure from has captured: G0 the graph's box, Q0 the sink's, s the yield's, s + 2 the box of c, whose cells lie at s + 1, s + 3 its own. -/
structure CfS (G0 Q0 eb s n q l : Nat) (ve : Value) (es : List Tri) (cs : List Int) (W : World) : Prop where
  g : BL W G0 24 [.int .i64 (n : Int), ve]
  e : EB W ve es eb
  k : BL W Q0 3 [.int .i64 (q : Int)]
  y : BL W s 74 [.func (.yield l) #[] #[]]
  c : OI W (s + 1) (.slice (some ⟨s + 1, 0, none⟩) n n) cs
  b : BL W (s + 2) 26 [.slice (some ⟨s + 1, 0, none⟩) n n]
  f : BL W (s + 3) 58 [.func (.func 124) #[] #[.pointer (some ⟨G0, 0, none⟩), .pointer (some ⟨s, 0, none⟩), .pointer (some ⟨s + 2, 0, none⟩), .pointer (some ⟨Q0, 0, none⟩), .pointer (some ⟨s + 3, 0, none⟩)]]
theorem CfS.keep {G0 Q0 eb s n q l : Nat} {ve : Value} {es : List Tri} {cs : List Int} {W W' : World} (h : CfS G0 Q0 eb s n q l ve es cs W) (hk : LkK [G0, Q0, eb, s, s + 1, s + 2, s + 3] W W') : CfS G0 Q0 eb s n q l ve es cs W' :=
  ⟨(hk.2 _ (by simp)).trans h.g, h.e.keep hk.1 (hk.2 _ (by simp)), (hk.2 _ (by simp)).trans h.k, (hk.2 _ (by simp)).trans h.y, OV.heapEq h.c (hk.2 _ (by simp)), (hk.2 _ (by simp)).trans h.b, (hk.2 _ (by simp)).trans h.f⟩
theorem CfS.below {G0 Q0 eb s n q l : Nat} {ve : Value} {es : List Tri} {cs : List Int} {W W' : World} (h : CfS G0 Q0 eb s n q l ve es cs W) (hb : Below W.heap.size W W') : CfS G0 Q0 eb s n q l ve es cs W' :=
  ⟨h.g.bel hb, h.e.below hb, h.k.bel hb, h.y.bel hb, h.c.below hb, h.b.bel hb, h.f.bel hb⟩
theorem CfS.set {G0 Q0 eb s n q l : Nat} {ve : Value} {es : List Tri} {cs : List Int} {W : World} (h : CfS G0 Q0 eb s n q l ve es cs W) (hG : G0 < s) (hQ : Q0 < s) (he : eb < s) {v : Nat} (hv : v < cs.length) (x : Int) : CfS G0 Q0 eb s n q l ve es (cs.set v x) (W.setCell ⟨s + 1, v, none⟩ (.int .i64 x)) := by
  obtain ⟨-, -, -, -, est⟩ := OI.at' h.c hv
  exact ⟨h.g.set_other (by simp; omega) _, h.e.keep (by simp) (heap_setCell_other _ _ _ _ (by simp; omega)), h.k.set_other (by simp; omega) _, h.y.set_other (by simp) _, (est x).1, h.b.set_other (by simp) _, h.f.set_other (by simp) _⟩
/-- What comes with a configuration that is yielded. -/
def CfIt (s : Nat) (E : List (List Int)) (pre : List (Value × List Int)) (x : Value × List Int) (W : World) : Prop :=
  OI W (s + 4) x.1 x.2 ∧ s + 4 ≤ W.heap.size ∧ ∃ rest, pre.map (·.2) ++ x.2 :: rest = E
theorem gv_of {W : World} {n : Nat} {ve : Value} {es : List Tri} {eb : Nat} (h : EB W ve es eb) : GV W (.agg #[.int .i64 (n : Int), ve]) n es := ⟨ve, rfl, h.1⟩
set_option maxRecDepth 100000 in
set_option maxHeartbeats 8000000 in
theorem from_any (G0 Q0 eb s n q l : Nat) (ve : Value) (es : List Tri) (hr : Rt n es) (hq : q < n) (hG : G0 < s) (hQ : Q0 < s) (he : eb < s) (E : List (List Int)) (J Jx : List (Value × List Int) → World → Prop)
    (hJ : ∀ pre A B, J pre A → Fr [s + 1] A B → J pre B)
    (hY : ∀ (N : Nat) pre x W1, J pre W1 → CfIt s E pre x W1 → YieldAt Fence.wide N Tryz.prog l #[x.1] W1 fun e W' => (e = .returned (.bool true) ∧ J (pre ++ [x]) W' ∧ LkK [G0, Q0, eb, s, s + 1, s + 2, s + 3] W1 W') ∨ (e = .returned (.bool false) ∧ Jx (pre ++ [x]) W')) :
    ∀ (m v : Nat), v + m = n → ∀ (N : Nat) (cs : List Int) (pre : List (Value × List Int)) (W : World), Cf n q cs → (∀ u, v ≤ u → u < n → cs.getD u 0 = 0) → (∃ rest, pre.map (·.2) ++ (enumF (tightB n q es) q m v cs ++ rest) = E) → J pre W → CfS G0 Q0 eb s n q l ve es cs W →
      CallsIn Fence.wide N Tryz.prog 124 #[.int .i64 (v : Int), .pointer (some ⟨G0, 0, none⟩), .pointer (some ⟨s, 0, none⟩), .pointer (some ⟨s + 2, 0, none⟩), .pointer (some ⟨Q0, 0, none⟩), .pointer (some ⟨s + 3, 0, none⟩)] W fun e W' =>
        (e = .returned (.bool true) ∧ ∃ xs, xs.map (·.2) = enumF (tightB n q es) q m v cs ∧ J (pre ++ xs) W' ∧ CfS G0 Q0 eb s n q l ve es cs W') ∨ (e = .returned (.bool false) ∧ ∃ pre', Jx pre' W') := by
  intro m
  induction m with
  | zero =>
    intro v hvn N cs pre W hcf hz hE hj hw
    have hm : Tryz.prog.follows .mixedOrders = true := by kernel_rfl
    obtain rfl : v = n := by omega
    have c1 := hw.g.cell 0
    have c2 := hw.y.cell 0
    have c3 := hw.b.cell 0
    have hCl := Lib.hid (clone_shape _ cs W.drew (OV.rv (OV.below hw.c (Below.refl _ _).drew)) v hcf.len hr.n1)
    have HW := Lib.hid hw
    have HJ := Lib.hid hJ
    have HY := Lib.hid hY
    have HJW := Lib.hid hj
    have HE := Lib.hid hE
    clear hw hJ hY hj hE
    refine callsIn_of_wp Tryz.func124 rfl trivial ?_ rfl
    simp only [Tryz.ntmps124, List.size_toArray, List.length_cons, List.length_nil, Nat.reduceAdd, Nat.reduceSub, Array.replicate_succ, Array.replicate_zero, List.push_toArray, List.append_toArray, List.nil_append, List.cons_append]
    gi_wp2_with fail
    have HK2 : Hid (∀ w1 : World, Below W.drew.heap.size W.drew w1 → w1.cell? ⟨s, 0, none⟩ = some (.func (.yield l) #[] #[])) := fun w1 hb => (hb.cell (p := ⟨s, 0, none⟩) (block_lt_of_cell c2)).trans c2
    have HYs : Hid (∀ w1 gc cap, Below W.drew.heap.size W.drew w1 → OI w1 W.drew.heap.size (.slice (some ⟨gc, 0, none⟩) v cap) cs → YieldAt Fence.wide (N - 1) Tryz.prog l #[.slice (some ⟨gc, 0, none⟩) v cap] w1 fun e W' => ∃ bb, e = .returned (.bool bb) ∧ ((bb = true ∧ J (pre ++ [(.slice (some ⟨gc, 0, none⟩) v cap, cs)]) W' ∧ LkK [G0, Q0, eb, s, s + 1, s + 2, s + 3] w1 W') ∨ (bb = false ∧ Jx (pre ++ [(.slice (some ⟨gc, 0, none⟩) v cap, cs)]) W'))) := by
      intro w1 gc cap hb ho
      have hfl := HW.out.f.lt
      refine (HY.out (N - 1) pre (.slice (some ⟨gc, 0, none⟩) v cap, cs) w1 (HJ.out _ _ _ HJW.out (((Fr.refl _ W).drewN 1).below hb)) ⟨OV.mono ho (by simp; omega), by have := hb.size; simp at this; omega, ?_⟩).mono ?_
      · obtain ⟨rest, h⟩ := HE.out
        exact ⟨rest, by simpa [enumF] using h⟩
      · rintro e W' (⟨rfl, h1, h2⟩ | ⟨rfl, h1⟩)
        · exact ⟨true, rfl, .inl ⟨rfl, h1, h2⟩⟩
        · exact ⟨false, rfl, .inr ⟨rfl, h1⟩⟩
    gi_region_with_o (first
      | (refine ⟨trivial, fun h => (by simp [Fence.wide] at h), (callsIn_wide.2 hCl.out).mono ?_⟩; rintro e w1 ⟨gc, cap, rfl, ho, hb⟩; have k2 := HK2.out w1 hb.out; obtain ⟨fn, tmps, assign, body, hy, hRd⟩ := HYs.out w1 gc cap hb.out ho.out; have HRd := Lib.hid hRd; clear hRd)
      | (refine ⟨fun h => (by simp [Fence.wide] at h), HRd.out.mono ?_⟩; rintro e W3 ⟨bb, rfl, hres⟩; have HRes := Lib.hid hres; clear hres hy))
    all_goals
      have HC1 := Lib.hid (HW.out.below ((Below.refl _ W).drew.trans hb.out))
      clear hb ho
      gi_wp2
      refine bodyPost_ret (results_tmp rfl _ _ _) rfl ?_
      rcases HRes.out with ⟨rfl, h1, h2⟩ | ⟨rfl, h1⟩
      · exact .inl ⟨rfl, [(.slice (some ⟨gc, 0, none⟩) v cap, cs)], by simp [enumF], h1, HC1.out.keep h2⟩
      · exact .inr ⟨rfl, _, h1⟩
  | succ m ih =>
    intro v hvn N cs pre W hcf hz hE hj hw
    have h6 := hr.n6
    have hvl : v < n := by omega
    have c1 := hw.g.cell 0
    have c4 := hw.k.cell 0
    have c5 := hw.f.cell 0
    have t1 : ((v : Int) == n) = false := by simp; omega
    have HW := Lib.hid hw
    have HJ := Lib.hid hJ
    have HY := Lib.hid hY
    have HJW := Lib.hid hj
    have HE := Lib.hid hE
    have HCf := Lib.hid hcf
    have HZ := Lib.hid hz
    have HIh := Lib.hid ih
    have HR := Lib.hid hr
    clear hw hJ hY hj hE hcf hz ih hr
    by_cases hvq : v = q
    · subst hvq
      have hi := HIh.out (v + 1) (by omega) (N - 1) cs pre W HCf.out (fun u hu => HZ.out u (by omega)) (by obtain ⟨rest, h⟩ := HE.out; exact ⟨rest, by simpa [enumF] using h⟩) HJW.out HW.out
      have HI := Lib.hid hi
      have HEn : Hid (enumF (tightB n v es) v (m + 1) v cs = enumF (tightB n v es) v m (v + 1) cs) := by show _ = _; simp [enumF]
      rw [HEn.out]
      rw [Int.natCast_succ] at HI
      clear hi
      refine callsIn_of_wp Tryz.func124 rfl trivial ?_ rfl
      simp only [Tryz.ntmps124, List.size_toArray, List.length_cons, List.length_nil, Nat.reduceAdd, Nat.reduceSub, Array.replicate_succ, Array.replicate_zero, List.push_toArray, List.append_toArray, List.nil_append, List.cons_append]
      gi_wp2_with fail
      refine ⟨trivial, fun h => (by simp [Fence.wide] at h), HI.out.mono ?_⟩
      rintro e W2 (⟨rfl, xs, hx, hj2, hc2⟩ | ⟨rfl, pre', hjx⟩)
      · have HX := Lib.hid hx
        have HJ2 := Lib.hid hj2
        have HC2 := Lib.hid hc2
        clear hx hj2 hc2
        gi_wp2
        refine bodyPost_ret (results_tmp rfl _ _ _) rfl ?_
        exact .inl ⟨rfl, xs, HX.out, HJ2.out, HC2.out⟩
      · have HJx := Lib.hid hjx
        clear hjx
        gi_wp2
        refine bodyPost_ret (results_tmp rfl _ _ _) rfl ?_
        exact .inr ⟨rfl, _, HJx.out⟩
    · have t2 : ((v : Int) == q) = false := by simp; omega
      have HEn : Hid (enumF (tightB n q es) q (m + 1) v cs = enumK (tightB n q es) (enumF (tightB n q es) q m (v + 1)) v cs 64 0) := by show _ = _; simp [enumF, hvq]
      have hset0 : cs.set v ((0 : Nat) : Int) = cs := by
        have h := HZ.out v (Nat.le_refl _) hvl
        have hlen : v < cs.length := by have := HCf.out.len; omega
        rw [List.getD_eq_getElem?_getD, List.getElem?_eq_getElem hlen] at h
        simp only [Option.getD_some] at h
        apply List.ext_getElem? ; intro i
        rw [List.getElem?_set]
        by_cases e : v = i
        · subst e; rw [if_pos rfl, if_pos hlen, List.getElem?_eq_getElem hlen, h]; rfl
        · rw [if_neg e]
      have HS0 := Lib.hid hset0
      clear hset0
      rw [HEn.out]
      refine callsIn_of_wp Tryz.func124 rfl trivial ?_ rfl
      simp only [Tryz.ntmps124, List.size_toArray, List.length_cons, List.length_nil, Nat.reduceAdd, Nat.reduceSub, Array.replicate_succ, Array.replicate_zero, List.push_toArray, List.append_toArray, List.nil_append, List.cons_append]
      gi_wp2_with fail
      clear c1 c4 c5
      gi_loopg [7] 64 (fun k x wr => ∃ (c : Nat) (ys : List (Value × List Int)), c + k = 64 ∧ x = .bool false ∧ Hid (ys.map (·.2) ++ enumK (tightB n q es) (enumF (tightB n q es) q m (v + 1)) v cs k c = enumK (tightB n q es) (enumF (tightB n q es) q m (v + 1)) v cs 64 0) ∧ Hid (J (pre ++ ys) wr) ∧ Hid (CfS G0 Q0 eb s n q l ve es (cs.set v (c : Int)) wr))
      case atStart => exact ⟨0, [], rfl, rfl, by simp [Hid], by simpa [Hid] using HJW.out, by rw [HS0.out]; exact HW.out⟩
      case round =>
        obtain ⟨c, ys, hck, rfl, hys, hj, hw⟩ := hrel
        obtain ⟨wo, rfl⟩ : ∃ wo : World, wo = wr := ⟨_, rfl⟩
        have hlen : v < cs.length := by have := HCf.out.len; omega
        have hget : ∀ u, (cs.set v (c : Int)).getD u 0 = if v = u then (c : Int) else cs.getD u 0 := fun u => getD_set_int cs v u _ hlen
        have hcf2 : Cf n q (cs.set v (c : Int)) := ⟨by rw [List.length_set]; exact HCf.out.len, fun u hu => by rw [hget]; split; omega; exact HCf.out.lo u hu, fun u hu => by rw [hget]; split; omega; exact HCf.out.hi u hu, by rw [hget, if_neg hvq]; exact HCf.out.own⟩
        have d0 := hw.out.g.cell 0
        have d1 := hw.out.g.cell 1
        have d2 := hw.out.k.cell 0
        have d3 := hw.out.b.cell 0
        have HC := Lib.hid (calm_any _ _ n q es _ wo (gv_of hw.out.e) HR.out hq (OV.rv hw.out.c) hcf2)
        have HCf2 := Lib.hid hcf2
        have HGet := Lib.hid hget
        clear hcf2 hget
        gi_wp2_with fail
        refine ⟨trivial, fun h => (by simp [Fence.wide] at h), (callsIn_wide.2 HC.out).mono ?_⟩
        rintro e w1 ⟨ok, rfl, hb1, hok⟩
        have hj1 := HJ.out _ _ _ hj.out ((Fr.refl [s + 1] wo).below hb1)
        have hw1 := hw.out.below hb1
        have HOk := Lib.hid hok
        clear hb1 hok d0 d1 d2 d3 HC
        have e3 := hw1.b.cell 0
        have e5 := hw1.f.cell 0
        cases ok
        · have htb : tightB n q es (cs.set v (c : Int)) = false := by
            rw [Bool.eq_false_iff]; intro h
            have := HOk.out.2 ((tightB_iff hq).1 h)
            cases this
          have hnil : enumK (tightB n q es) (enumF (tightB n q es) q m (v + 1)) v cs gk c = [] := by
            cases gk with
            | zero => rfl
            | succ k' => simp [enumK, htb]
          have HYs : Hid (ys.map (·.2) = enumK (tightB n q es) (enumF (tightB n q es) q m (v + 1)) v cs 64 0) := by
            have h := hys.out
            rw [hnil, List.append_nil] at h
            exact h
          obtain ⟨-, -, g1, g2, -⟩ := OI.at' hw1.c (k := v) (by rw [List.length_set]; exact hlen)
          have hw2 := hw1.set hG hQ he (v := v) (by rw [List.length_set]; exact hlen) 0
          rw [List.set_set, show cs.set v (0 : Int) = cs from HS0.out] at hw2
          have hj2 := HJ.out _ _ _ hj1 ((Fr.refl [s + 1] w1).setCell (p := ⟨s + 1, v, none⟩) (.inl (by simp)) (.int .i64 0))
          have HW2 := Lib.hid hw2
          have HJ2 := Lib.hid hj2
          clear hw2 hj2 hw1 hj1 htb hnil
          generalize (cs.set v (c : Int)).getD v 0 = cv at *
          gi_wp2
          refine bodyPost_ret (results_tmp rfl _ _ _) rfl ?_
          exact .inl ⟨rfl, ys, HYs.out, HJ2.out, HW2.out⟩
        · have htt := HOk.out.1 rfl
          have htb : tightB n q es (cs.set v (c : Int)) = true := (tightB_iff hq).2 htt
          have hc9 : (c : Int) < 9 := by
            have h := tight_lt HR.out htt hvl hvq
            rwa [HGet.out, if_pos rfl] at h
          obtain ⟨k', rfl⟩ : ∃ k', gk = k' + 1 := ⟨gk - 1, by omega⟩
          have HStep : Hid (enumK (tightB n q es) (enumF (tightB n q es) q m (v + 1)) v cs (k' + 1) c = enumF (tightB n q es) q m (v + 1) (cs.set v (c : Int)) ++ enumK (tightB n q es) (enumF (tightB n q es) q m (v + 1)) v cs k' (c + 1)) := by
            show _ = _; simp only [enumK, htb, if_true]
          have hi := HIh.out (v + 1) (by omega) (N - 1) (cs.set v (c : Int)) (pre ++ ys) w1 HCf2.out (fun u hu hun => by rw [HGet.out, if_neg (by omega)]; exact HZ.out u (by omega) hun) (by
            obtain ⟨rest, h⟩ := HE.out
            refine ⟨enumK (tightB n q es) (enumF (tightB n q es) q m (v + 1)) v cs k' (c + 1) ++ rest, ?_⟩
            rw [← h, HEn.out, ← hys.out, HStep.out]
            simp [List.append_assoc]) hj1 hw1
          rw [Int.natCast_succ] at hi
          have HI := Lib.hid hi
          clear hi htb htt hw1 hj1
          gi_wp2_with fail
          refine ⟨trivial, fun h => (by simp [Fence.wide] at h), HI.out.mono ?_⟩
          rintro e W2 (⟨rfl, xs, hx, hj2, hc2⟩ | ⟨rfl, pre', hjx⟩)
          · obtain ⟨-, -, g1, g2, -⟩ := OI.at' hc2.c (k := v) (by rw [List.length_set]; exact hlen)
            have f3 := hc2.b.cell 0
            have hw3 := hc2.set hG hQ he (v := v) (by rw [List.length_set]; exact hlen) ((c : Int) + 1)
            rw [List.set_set] at hw3
            have hj3 := HJ.out _ _ _ hj2 ((Fr.refl [s + 1] W2).setCell (p := ⟨s + 1, v, none⟩) (.inl (by simp)) (.int .i64 ((c : Int) + 1)))
            rw [HGet.out, if_pos rfl] at g1
            have HW3 := Lib.hid hw3
            have HJ3 := Lib.hid hj3
            have HX := Lib.hid hx
            clear hw3 hj3 hx hj2 hc2 e3 e5
            gi_wp2
            gi_roundg k'
            case measure => omega
            case rel => exact ⟨c + 1, ys ++ xs, by omega, rfl, by
              show _ = _
              rw [← hys.out, HStep.out, List.map_append, HX.out, List.append_assoc], by rw [← List.append_assoc]; exact HJ3.out, by
              have := HW3.out
              rwa [show ((c : Int) + 1) = ((c + 1 : Nat) : Int) by omega] at this⟩
          · have HJx := Lib.hid hjx
            clear hjx e3 e5
            gi_wp2
            refine bodyPost_ret (results_tmp rfl _ _ _) rfl ?_
            exact .inr ⟨rfl, _, HJx.out⟩
end Go.Proofs.YtefggpdobjboeaaGreat

namespace Go.Proofs.YtefggpdobjboeaaGreat
open Go.RowKit Go.Shelf
attribute [local go_sem] Oper.semAt_some

theorem run_store_func (P : Program) (w : World) (a : Addr) (m : Mode) (f : Fn) (b c : Array Value) : (store a (.func f b c) m).run P w = stored P w a (.func f b c) m := run_store P w a _ m rfl
attribute [local go_sem] run_store_func
def zerosL (n : Nat) : List Int := List.replicate n 0
theorem zerosL_get (n u : Nat) : (zerosL n).getD u 0 = 0 := by
  unfold zerosL
  rw [List.getD_eq_getElem?_getD, List.getElem?_replicate]; split <;> rfl
theorem cf_zeros (n q : Nat) : Cf n q (zerosL n) := ⟨by simp [zerosL], fun v _ => by rw [zerosL_get]; omega, fun v _ => by rw [zerosL_get]; omega, zerosL_get n q⟩
/-- All superstable configurations, in the order in which they come. -/
def confsL (n q : Nat) (es : List Tri) : List (List Int) := enumF (tightB n q es) q n 0 (zerosL n)
theorem configurations_any (g : Value) (n q : Nat) (es : List Tri) (w : World) (hg : GV w g n es) : Calls Tryz.prog 88 #[g, .int .i64 (q : Int)] w fun e w' =>
    e = .returned (.func (.func 123) #[] #[.pointer (some ⟨w.heap.size, 0, none⟩), .pointer (some ⟨w.heap.size + 1, 0, none⟩)]) ∧
      ∃ ve, g = .agg #[.int .i64 (n : Int), ve] ∧ (w.alloc (.cells #[.int .i64 (n : Int), ve] 24)).alloc (.cells #[.int .i64 (q : Int)] 3) = w' := by
  obtain ⟨A, c, rfl, -, -, -⟩ := hg.open_
  clear hg
  go_enter Tryz.func88, Tryz.ntmps88
  go_wp2
  go_ret
  exact ⟨rfl, _, rfl, rfl⟩
set_option maxRecDepth 100000 in
set_option maxHeartbeats 4000000 in
theorem conf_iter (G0 Q0 eb s n q : Nat) (ve : Value) (es : List Tri) (hr : Rt n es) (hq : q < n) (hG : G0 < s) (hQ : Q0 < s) (he : eb < s) :
    IterW Tryz.prog 123 #[.pointer (some ⟨G0, 0, none⟩), .pointer (some ⟨Q0, 0, none⟩)] (fun x : Value × List Int => #[x.1]) (CfIt s (confsL n q es)) (fun A B => Fr [s + 1] A B) (LkK [G0, Q0, eb, s, s + 1, s + 2, s + 3])
      (fun xs _ => xs.map (·.2) = confsL n q es) (fun _ _ => True) (fun W => W.heap.size = s ∧ BL W G0 24 [.int .i64 (n : Int), ve] ∧ EB W ve es eb ∧ BL W Q0 3 [.int .i64 (q : Int)]) := by
  rintro N l J Jx W ⟨hsz, hg, hE, hk⟩ hJ hJx hY h0
  have h6 := hr.n6
  have hmk := run_make_row' (P := Tryz.prog) 26 3 (.int .i64 0) 8 Tryz.underlying26 int_info rfl .i64 .i64 n (by omega) (by omega)
  have c0 := hg.cell 0
  obtain ⟨W1, hW1⟩ : ∃ W1, W1 = W.alloc (.cells #[.func (.yield l) #[] #[]] 74) := ⟨_, rfl⟩
  obtain ⟨W2, hW2⟩ : ∃ W2, W2 = W1.alloc (.cells (madeCells #[Value.int .i64 0] n) 3) := ⟨_, rfl⟩
  obtain ⟨W3, hW3⟩ : ∃ W3, W3 = W2.alloc (.cells #[.slice (some ⟨s + 1, 0, none⟩) n n] 26) := ⟨_, rfl⟩
  have hb1 : Below W.heap.size W W1 := by rw [hW1]; exact below_alloc W _
  have hb2 : Below W1.heap.size W1 W2 := by rw [hW2]; exact below_alloc W1 _
  have hb3 : Below W2.heap.size W2 W3 := by rw [hW3]; exact below_alloc W2 _
  have z1 : W1.heap.size = s + 1 := by rw [hW1]; simp; omega
  have z2 : W2.heap.size = s + 2 := by rw [hW2]; simp; omega
  have z3 : W3.heap.size = s + 3 := by rw [hW3]; simp; omega
  have o2 : OI W2 (s + 1) (.slice (some ⟨s + 1, 0, none⟩) n n) (zerosL n) := by
    have h := own_zeros W1 n (by omega)
    rw [← hW2, z1] at h
    exact h
  have y1 : BL W1 s 74 [.func (.yield l) #[] #[]] := by rw [hW1, ← hsz]; exact BL.new' W _ _
  have x3 : BL W3 (s + 2) 26 [.slice (some ⟨s + 1, 0, none⟩) n n] := by rw [hW3, ← z2]; exact BL.new' W2 _ _
  obtain ⟨fv, hfv⟩ : ∃ fv : Value, fv = .func (.func 124) #[] #[.pointer (some ⟨G0, 0, none⟩), .pointer (some ⟨s, 0, none⟩), .pointer (some ⟨s + 2, 0, none⟩), .pointer (some ⟨Q0, 0, none⟩), .pointer (some ⟨s + 3, 0, none⟩)] := ⟨_, rfl⟩
  obtain ⟨W4, hW4⟩ : ∃ W4, W4 = W3.alloc (.cells #[fv] 58) := ⟨_, rfl⟩
  have hb4 : Below W3.heap.size W3 W4 := by rw [hW4]; exact below_alloc W3 _
  have x4 : BL W4 (s + 3) 58 [fv] := by rw [hW4, ← z3]; exact BL.new' W3 _ _
  have hbW : Below W.heap.size W W4 := hb1.trans ((hb2.trans ((hb3.trans (hb4.mono hb3.size)).mono hb2.size)).mono hb1.size)
  have hJ5 := hJ _ _ _ h0 ((Fr.refl [s + 1] W).below hbW)
  have hC5 : CfS G0 Q0 eb s n q l ve es (zerosL n) W4 :=
    ⟨hg.bel hbW, hE.below hbW, hk.bel hbW, ((y1.bel hb2).bel hb3).bel hb4, OI.below (OI.below o2 hb3) hb4, x3.bel hb4, by rw [← hfv]; exact x4⟩
  have hFr := fun N' => from_any G0 Q0 eb s n q l ve es hr hq hG hQ he (confsL n q es) J Jx hJ (fun N'' pre x W1 h1 h2 => yieldAt_any (hY pre x W1 h1 h2)) n 0 (by omega) N' (zerosL n) [] _ (cf_zeros n q) (fun u _ _ => zerosL_get n u) ⟨[], by simp [confsL]⟩ hJ5 hC5
  have HFr := Lib.hid hFr
  have HW4 : Hid (W4 = (((W.alloc (.cells #[.func (.yield l) #[] #[]] 74)).alloc (.cells (madeCells #[Value.int .i64 0] n) 3)).alloc (.cells #[.slice (some ⟨s + 1, 0, none⟩) n n] 26)).alloc (.cells #[fv] 58)) := by show _ = _; rw [hW4, hW3, hW2, hW1]
  have HFv := Lib.hid hfv
  rw [HFv.out] at HW4
  clear hg hE hk y1 o2 x3 x4 hJ5 hC5 hFr hJ hY hJx h0 hb1 hb2 hb3 hb4 hbW hW1 hW2 hW3 hW4 z1 z2 z3 hr hfv
  subst hsz
  refine callsIn_of_wp Tryz.func123 rfl trivial ?_ rfl
  simp only [Tryz.ntmps123, List.size_toArray, List.length_cons, List.length_nil, Nat.reduceAdd, Nat.reduceSub, Array.replicate_succ, Array.replicate_zero, List.push_toArray, List.append_toArray, List.nil_append, List.cons_append]
  gi_wp2_with fail
  rw [← HW4.out]
  refine ⟨trivial, fun h => (by simp [Fence.wide] at h), (HFr.out (N - 1)).mono ?_⟩
  rintro e W5 (⟨rfl, xs, hx, hj, -⟩ | ⟨rfl, pre', hjx⟩)
  · have HX := Lib.hid hx
    have HJ5 := Lib.hid hj
    clear hx hj
    gi_wp2
    refine bodyPost_end (results_none rfl _ _ _) rfl ?_
    exact ⟨⟨_, rfl⟩, .inl ⟨xs, HX.out, by simpa using HJ5.out⟩⟩
  · have HJx := Lib.hid hjx
    clear hjx
    gi_wp2
    refine bodyPost_end (results_none rfl _ _ _) rfl ?_
    exact ⟨⟨_, rfl⟩, .inr ⟨pre', trivial, HJx.out⟩⟩
end Go.Proofs.YtefggpdobjboeaaGreat
