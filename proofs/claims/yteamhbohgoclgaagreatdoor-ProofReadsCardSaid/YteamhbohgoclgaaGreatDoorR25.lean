/- Contracts of package proof's Check and Claimed. -/
import Derived.Test.YteamhbohgoclgaaGreatDoorR23
import Derived.Test.YteamhbohgoclgaaGreatDoorR24
set_option maxRecDepth 100000
set_option maxHeartbeats 16000000
namespace Go.Proofs.YteamhbohgoclgaaGreatDoor
open Go.RowKit Go.Shelf

def formA (m : Nat) (kk Q N : Int) (a b f : List Int) : Int := if kk < 0 \/ 8 < kk then 1 else formG m kk.toNat Q N a b f
def chkC (n : Int) (es : List Tri) (kk Q N : Int) (a b f : List Int) : Int := if eGiven n es [] ≠ 0 then eGiven n es [] else formA n.toNat kk Q N a b f
theorem eGivenP_ok {n : Int} {es : List Tri} (h : eGiven n es [] = 0) : ∃ m : Nat, n = m /\ 1 <= m /\ m <= 12 /\ Edges m es /\ connB m es = true /\ gcheckE n es = 0 := by
 unfold eGiven at h
 by_cases h1 : gcheckE n es = 0
 · rw [if_neg (by simpa using h1)] at h
   obtain ⟨m, rfl, h2, h3, h4⟩ := gcheckE_zero h1
   by_cases h5 : connB (m : Int) es = false
   · rw [if_pos h5] at h; cases h
   · exact ⟨m, rfl, h2, h3, h4, by simpa using h5, h1⟩
 · rw [if_pos h1] at h; exact absurd h h1
theorem facG_bd : ∀ (p : Int) (l : List Int), facG p l = 0 -> ∀ z ∈ l, 2 <= z /\ z <= 1048576
 | _, [], _, z, hz => by simp at hz
 | p, f :: r, h, z, hz => by
   unfold facG at h
   by_cases h1 : f < 2 \/ 1048576 < f
   · rw [if_pos h1] at h; cases h
   · rw [if_neg h1] at h
     by_cases h2 : p ≠ 0 /\ f % p ≠ 0
     · rw [if_pos h2] at h; cases h
     · rw [if_neg h2] at h
       rcases List.mem_cons.1 hz with rfl | hz
       · omega
       · exact facG_bd f r h z hz
theorem check_bd {zs : List Int} {m : Nat} (h : checkE zs m = 0) : zs.length = m /\ ∀ z ∈ zs, -1048576 <= z /\ z <= 1048576 := by
 obtain ⟨-, -, h1, h2⟩ := checkE_ok h
 refine ⟨by omega, fun z hz => ?_⟩
 have := List.all_eq_true.1 h2 z hz
 unfold InB at this
 simp at this
 omega
structure FormOk (m k : Nat) (Q N : Int) (a b f : List Int) : Prop where
 q1 : kq k = true -> 0 <= Q /\ Q < m
 q0 : kq k = false -> Q = 0
 n1 : kn k = true -> kl k <= N /\ N <= 12
 n0 : kn k = false -> N = 0
 a1 : ka k = true -> a.length = m
 a0 : ka k = false -> a = []
 b1 : kb k = true -> b.length = m
 b0 : kb k = false -> b = []
 f1 : kf k = true -> facNG m f = 0
 f0 : kf k = false -> f = []
 ab : ∀ z ∈ a, -1048576 <= z /\ z <= 1048576
 bb : ∀ z ∈ b, -1048576 <= z /\ z <= 1048576
 fb : ∀ z ∈ f, 2 <= z /\ z <= 1048576
 fl : f.length <= m
theorem formG_ok {m k : Nat} {Q N : Int} {a b f : List Int} (h : formG m k Q N a b f = 0) : FormOk m k Q N a b f := by
 unfold formG at h
 by_cases h1 : (kq k = true /\ ¬ (0 <= Q /\ Q < m)) \/ (kn k = true /\ (N < kl k \/ 12 < N))
 · rw [if_pos h1] at h; cases h
 rw [if_neg h1] at h
 by_cases h2 : ka k = true /\ checkE a m ≠ 0
 · rw [if_pos h2] at h; exact absurd h h2.2
 rw [if_neg h2] at h
 by_cases h3 : kb k = true /\ checkE b m ≠ 0
 · rw [if_pos h3] at h; exact absurd h h3.2
 rw [if_neg h3] at h
 by_cases h4 : kf k = true /\ facNG m f ≠ 0
 · rw [if_pos h4] at h; exact absurd h h4.2
 rw [if_neg h4] at h
 by_cases h5 : (kq k = false /\ Q ≠ 0) \/ (kn k = false /\ N ≠ 0) \/ (ka k = false /\ a ≠ []) \/ (kb k = false /\ b ≠ []) \/ (kf k = false /\ f ≠ [])
 · rw [if_pos h5] at h; cases h
 simp only [not_or, not_and, Decidable.not_not] at h1 h2 h3 h4 h5
 obtain ⟨e1, e2, e3, e4, e5⟩ := h5
 have hf : kf k = true -> f.length <= m /\ ∀ z ∈ f, 2 <= z /\ z <= 1048576 := fun hk => by
   have := h4 hk
   unfold facNG at this
   by_cases hl : (f.length : Int) > m - 1
   · rw [if_pos hl] at this; cases this
   · rw [if_neg hl] at this
     exact ⟨by omega, facG_bd _ _ this⟩
 refine ⟨fun hk => by have := h1.1 hk; omega, e1, fun hk => by have := h1.2 hk; omega, e2, fun hk => (check_bd (h2 hk)).1, e3, fun hk => (check_bd (h3 hk)).1, e4, h4, e5, ?_, ?_, ?_, ?_⟩
 · cases hk : ka k with
   | true => exact (check_bd (h2 hk)).2
   | false => rw [e3 hk]; simp
 · cases hk : kb k with
   | true => exact (check_bd (h3 hk)).2
   | false => rw [e4 hk]; simp
 · cases hk : kf k with
   | true => exact (hf hk).2
   | false => rw [e5 hk]; simp
 · cases hk : kf k with
   | true => exact (hf hk).1
   | false => rw [e5 hk]; simp
theorem FormOk.txt {m k : Nat} {Q N : Int} {a b f : List Int} (h : FormOk m k Q N a b f) (hm : m <= 12) : (∀ z ∈ txtL k Q N a b f, -1048576 <= z /\ z <= 1048576) /\ a.length <= 12 /\ b.length <= 12 /\ f.length <= 12 := by
 have hal : a.length <= 12 := by cases hk : ka k with
   | true => have := h.a1 hk; omega
   | false => rw [h.a0 hk]; simp
 have hbl : b.length <= 12 := by cases hk : kb k with
   | true => have := h.b1 hk; omega
   | false => rw [h.b0 hk]; simp
 have hfl := h.fl
 have hlo : -1 <= kl k := by unfold kl; split <;> omega
 refine ⟨fun z hz => ?_, hal, hbl, by omega⟩
 unfold txtL at hz
 simp only [List.mem_append] at hz
 rcases hz with (((hz | hz) | hz) | hz) | hz
 · cases hk : kq k with
   | true => rw [hk] at hz; simp at hz; have := h.q1 hk; omega
   | false => rw [hk] at hz; simp at hz
 · cases hk : kn k with
   | true => rw [hk] at hz; simp at hz; have := h.n1 hk; omega
   | false => rw [hk] at hz; simp at hz
 · exact h.ab z hz
 · exact h.bb z hz
 · cases hk : kf k with
   | true =>
     rw [hk] at hz
     simp at hz
     rcases hz with rfl | hz
     · omega
     · have := h.fb z hz; omega
   | false => rw [hk] at hz; simp at hz
theorem pForm_bad (g va vb vf : Value) (n : Int) (kk Q N : Int) (es : List Tri) (a b f : List Int) (w : World) (hk : kk < 0 \/ 8 < kk) (hg : GV w g n es) (ha : RI w va a) (hb : RI w vb b) (hf : RI w vf f) :
   Calls Tryz.prog 35 #[g, .agg #[.int .i64 kk, .int .i64 Q, .int .i64 N, va, vb, vf]] w fun e w' => e = .returned (.int .i64 1) /\ Below w.heap.size w w' := by
 obtain ⟨Aa, ca, rfl, -⟩ := ha.open_
 obtain ⟨Ab, cb, rfl, -⟩ := hb.open_
 obtain ⟨Af, cf, rfl, -⟩ := hf.open_
 obtain ⟨va, hva⟩ : ∃ v, v = Value.slice Aa a.length ca := ⟨_, rfl⟩
 obtain ⟨vb, hvb⟩ : ∃ v, v = Value.slice Ab b.length cb := ⟨_, rfl⟩
 obtain ⟨vf, hvf⟩ : ∃ v, v = Value.slice Af f.length cf := ⟨_, rfl⟩
 rw [<- hva, <- hvb, <- hvf]
 clear hva hvb hvf
 obtain ⟨Ag, cg, rfl, -⟩ := hg.open_
 obtain ⟨W0, hW0⟩ : ∃ W0, W0 = (w.alloc (.cells #[.int .i64 n, .slice Ag es.length cg] 25)).alloc (.cells #[.int .i64 kk, .int .i64 Q, .int .i64 N, va, vb, vf] 40) := ⟨_, rfl⟩
 have hb0 : Below w.heap.size w W0 := by rw [hW0]; exact (below_alloc w _).alloc (by simp) _
 have hxg : BL W0 w.heap.size 25 [.int .i64 n, .slice Ag es.length cg] := by rw [hW0]; exact (BL.new' w _ _).alloc _
 have hxc : BL W0 (w.heap.size + 1) 40 [.int .i64 kk, .int .i64 Q, .int .i64 N, va, vb, vf] := by
   rw [hW0]
   have := BL.new' (w.alloc (.cells #[.int .i64 n, .slice Ag es.length cg] 25)) #[.int .i64 kk, .int .i64 Q, .int .i64 N, va, vb, vf] 40
   rwa [World.size_alloc] at this
 have HXg := Hd hxg
 have HXc := Hd hxc
 have HG0 := Hd (hg.below hb0)
 have HB0 := Hd hb0
 have HW0 := Hd hW0
 clear hg hxg hxc hW0 hb0
 have HKi := Hd (pKinds_any W0)
 go_enter Tryz.func35, Tryz.ntmps35
 go_wp2_with fail
 rw [<- HW0.out]
 refine HKi.out.mono ?_
 rintro e w1 ⟨rfl, hb1⟩
 obtain ⟨W1, hW1⟩ : ∃ W1, W1 = w1.alloc (.cells pkL.toArray 86) := ⟨_, rfl⟩
 have hb2 : Below w1.heap.size w1 W1 := by rw [hW1]; exact below_alloc w1 _
 have hb12 : Below W0.heap.size W0 W1 := hb1.trans (hb2.mono hb1.size)
 have HB1 := Hd (HB0.out.trans (hb12.mono HB0.out.size))
 have c0 := (HXc.out.bel hb12).cell 0
 have HW1 := Hd hW1
 have hkk : kk < 0 \/ ¬ kk < 0 /\ (9 : Int) <= kk := by omega
 clear hb1 hb2 hb12 hW1 hk HKi HXc HXg
 rcases hkk with h1 | ⟨h1, h2⟩
 · go_wp2_with (refine wpList_store_row rfl 86 _ _ rfl w1.heap.size pkL.toArray rfl rfl _ _ (heap_alloc_new w1 _) pk_size (by kernel_rfl) (by kernel_rfl) ?_; rw [World.setRow_alloc_new, <- HW1.out])
   go_ret
   exact ⟨rfl, HB1.out⟩
 · go_wp2_with (refine wpList_store_row rfl 86 _ _ rfl w1.heap.size pkL.toArray rfl rfl _ _ (heap_alloc_new w1 _) pk_size (by kernel_rfl) (by kernel_rfl) ?_; rw [World.setRow_alloc_new, <- HW1.out])
   go_ret
   exact ⟨rfl, HB1.out⟩
theorem pFormA_any (g va vb vf : Value) (m : Nat) (kk Q N : Int) (es : List Tri) (a b f : List Int) (w : World) (hg : GV w g m es) (ha : RI w va a) (hb : RI w vb b) (hf : RI w vf f) (hm1 : 1 <= m) (hm : m <= 12) :
   Calls Tryz.prog 35 #[g, .agg #[.int .i64 kk, .int .i64 Q, .int .i64 N, va, vb, vf]] w fun e w' => e = .returned (.int .i64 (formA m kk Q N a b f)) /\ Below w.heap.size w w' := by
 by_cases h : kk < 0 \/ 8 < kk
 · rw [show formA m kk Q N a b f = 1 by unfold formA; rw [if_pos h]]
   exact pForm_bad g va vb vf m kk Q N es a b f w h hg ha hb hf
 · obtain ⟨k, rfl⟩ : ∃ k : Nat, kk = k := ⟨kk.toNat, by omega⟩
   rw [show formA m k Q N a b f = formG m k Q N a b f by unfold formA; rw [if_neg h, Int.toNat_natCast]]
   exact pForm_any g va vb vf m k Q N es a b f w (by omega) hg ha hb hf hm1 hm
theorem pCheck_any (g va vb vf : Value) (n : Int) (kk Q N : Int) (es : List Tri) (a b f : List Int) (w : World) (hg : GV w g n es) (ha : RI w va a) (hb : RI w vb b) (hf : RI w vf f) :
   Calls Tryz.prog 16 #[g, .agg #[.int .i64 kk, .int .i64 Q, .int .i64 N, va, vb, vf]] w fun e w' => e = .returned (.int .i64 (chkC n es kk Q N a b f)) /\ Below w.heap.size w w' := by
 have HA := Hd ha
 have HD := Hd hb
 have HF := Hd hf
 have HR : Hid (chkC n es kk Q N a b f = if eGiven n es [] ≠ 0 then eGiven n es [] else formA n.toNat kk Q N a b f) := rfl
 have HOk : Hid (eGiven n es [] = 0 -> ∃ m : Nat, n = m /\ 1 <= m /\ m <= 12) := fun h => by obtain ⟨m, h1, h2, h3, -⟩ := eGivenP_ok h; exact ⟨m, h1, h2, h3⟩
 generalize chkC n es kk Q N a b f = E at *
 clear ha hb hf
 obtain ⟨Ag, cg, rfl, -⟩ := hg.open_
 obtain ⟨W0, hW0⟩ : ∃ W0, W0 = (w.alloc (.cells #[.int .i64 n, .slice Ag es.length cg] 25)).alloc (.cells #[.int .i64 kk, .int .i64 Q, .int .i64 N, va, vb, vf] 40) := ⟨_, rfl⟩
 have hb0 : Below w.heap.size w W0 := by rw [hW0]; exact (below_alloc w _).alloc (by simp) _
 have hxg : BL W0 w.heap.size 25 [.int .i64 n, .slice Ag es.length cg] := by rw [hW0]; exact (BL.new' w _ _).alloc _
 have hxc : BL W0 (w.heap.size + 1) 40 [.int .i64 kk, .int .i64 Q, .int .i64 N, va, vb, vf] := by
   rw [hW0]
   have := BL.new' (w.alloc (.cells #[.int .i64 n, .slice Ag es.length cg] 25)) #[.int .i64 kk, .int .i64 Q, .int .i64 N, va, vb, vf] 40
   rwa [World.size_alloc] at this
 have HXg := Hd hxg
 have HXc := Hd hxc
 have HG0 := Hd (hg.below hb0)
 have HB0 := Hd hb0
 have HW0 := Hd hW0
 clear hg hxg hxc hW0 hb0
 have HC := Hd (pConn_any _ n es W0 HG0.out)
 generalize eGiven n es [] = eg at *
 have g0 := HXg.out.cell 0
 have g1 := HXg.out.cell 1
 rw [HW0.out] at g0 g1
 go_enter Tryz.func16, Tryz.ntmps16
 go_wp2_with fail
 rw [<- HW0.out]
 refine HC.out.mono ?_
 rintro e w2 ⟨rfl, hb2⟩
 clear g0 g1
 by_cases h0 : eg = 0
 · obtain ⟨m, rfl, hm1, hm⟩ := HOk.out h0
   have hR : Hid (E = formA m kk Q N a b f) := by show _ = _; rw [HR.out, if_neg (by simpa using h0), Int.toNat_natCast]
   subst h0
   have HFo := Hd (pFormA_any _ va vb vf m kk Q N es a b f w2 (HG0.out.below hb2) (RI.below HA.out (HB0.out.trans (hb2.mono HB0.out.size))) (RI.below HD.out (HB0.out.trans (hb2.mono HB0.out.size))) (RI.below HF.out (HB0.out.trans (hb2.mono HB0.out.size))) hm1 hm)
   have g0 := (HXg.out.bel hb2).cell 0
   have g1 := (HXg.out.bel hb2).cell 1
   have c0 := (HXc.out.bel hb2).cell 0
   have c1 := (HXc.out.bel hb2).cell 1
   have c2 := (HXc.out.bel hb2).cell 2
   have c3 := (HXc.out.bel hb2).cell 3
   have c4 := (HXc.out.bel hb2).cell 4
   have c5 := (HXc.out.bel hb2).cell 5
   have HB2 := Hd (HB0.out.trans (hb2.mono HB0.out.size))
   clear hb2
   clear HR HOk HC
   generalize formA m kk Q N a b f = E' at *
   go_wp2_with fail
   refine HFo.out.mono ?_
   rintro e w3 ⟨rfl, hb3⟩
   have HB3 := Hd (HB2.out.trans (hb3.mono HB2.out.size))
   clear hb3
   go_wp2
   go_ret
   exact ⟨ret_i hR.out.symm, HB3.out⟩
 · have hR : Hid (E = eg) := by show _ = _; rw [HR.out, if_pos h0]
   have t1 : (eg != 0) = true := by simpa using h0
   have HB2 := Hd (HB0.out.trans (hb2.mono HB0.out.size))
   clear hb2
   clear HR HOk HC h0
   go_wp2
   go_ret
   exact ⟨ret_i hR.out.symm, HB2.out⟩
theorem pClaimed_any (g va vb vf : Value) (n : Int) (kk Q N : Int) (es : List Tri) (a b f : List Int) (w : World) (hg : GV w g n es) (ha : RI w va a) (hb : RI w vb b) (hf : RI w vf f) (ht : TB w) :
   Calls Tryz.prog 14 #[g, .agg #[.int .i64 kk, .int .i64 Q, .int .i64 N, va, vb, vf]] w fun e w' => e = .returned (.tuple #[strV (if chkC n es kk Q N a b f = 0 then txtS kk.toNat Q N a b f else []), .int .i64 (chkC n es kk Q N a b f)]) /\ Below w.heap.size w w' := by
 have HA := Hd ha
 have HD := Hd hb
 have HF := Hd hf
 have HT := Hd ht
 have HOk : Hid (chkC n es kk Q N a b f = 0 -> ∃ k : Nat, kk = k /\ k < 9 /\ (∀ z ∈ txtL k Q N a b f, -1048576 <= z /\ z <= 1048576) /\ a.length <= 12 /\ b.length <= 12 /\ f.length <= 12) := fun h => by
   unfold chkC at h
   by_cases h1 : eGiven n es [] ≠ 0
   · rw [if_pos h1] at h; exact absurd h h1
   · rw [if_neg h1] at h
     obtain ⟨m, rfl, -, hm, -⟩ := eGivenP_ok (Decidable.not_not.1 h1)
     unfold formA at h
     by_cases h2 : kk < 0 \/ 8 < kk
     · rw [if_pos h2] at h; cases h
     · rw [if_neg h2, Int.toNat_natCast] at h
       exact ⟨kk.toNat, by omega, by omega, (formG_ok h).txt hm⟩
 clear ha hb hf ht
 obtain ⟨Ag, cg, rfl, -⟩ := hg.open_
 obtain ⟨W0, hW0⟩ : ∃ W0, W0 = (w.alloc (.cells #[.int .i64 n, .slice Ag es.length cg] 25)).alloc (.cells #[.int .i64 kk, .int .i64 Q, .int .i64 N, va, vb, vf] 40) := ⟨_, rfl⟩
 have hb0 : Below w.heap.size w W0 := by rw [hW0]; exact (below_alloc w _).alloc (by simp) _
 have hxg : BL W0 w.heap.size 25 [.int .i64 n, .slice Ag es.length cg] := by rw [hW0]; exact (BL.new' w _ _).alloc _
 have hxc : BL W0 (w.heap.size + 1) 40 [.int .i64 kk, .int .i64 Q, .int .i64 N, va, vb, vf] := by
   rw [hW0]
   have := BL.new' (w.alloc (.cells #[.int .i64 n, .slice Ag es.length cg] 25)) #[.int .i64 kk, .int .i64 Q, .int .i64 N, va, vb, vf] 40
   rwa [World.size_alloc] at this
 have HXg := Hd hxg
 have HXc := Hd hxc
 have HG0 := Hd (hg.below hb0)
 have HB0 := Hd hb0
 have HW0 := Hd hW0
 clear hg hxg hxc hW0 hb0
 have HC := Hd (pCheck_any _ va vb vf n kk Q N es a b f W0 HG0.out (RI.below HA.out HB0.out) (RI.below HD.out HB0.out) (RI.below HF.out HB0.out))
 generalize chkC n es kk Q N a b f = eg at *
 have g0 := HXg.out.cell 0
 have g1 := HXg.out.cell 1
 have c0 := HXc.out.cell 0
 have c1 := HXc.out.cell 1
 have c2 := HXc.out.cell 2
 have c3 := HXc.out.cell 3
 have c4 := HXc.out.cell 4
 have c5 := HXc.out.cell 5
 rw [HW0.out] at g0 g1 c0 c1 c2 c3 c4 c5
 obtain ⟨tv, htv⟩ : ∃ v, v = strV (if eg = 0 then txtS kk.toNat Q N a b f else []) := ⟨_, rfl⟩
 rw [<- htv]
 have HTv := Hd htv
 clear htv
 go_enter Tryz.func14, Tryz.ntmps14
 go_wp2_with fail
 rw [<- HW0.out]
 refine HC.out.mono ?_
 rintro e w2 ⟨rfl, hb2⟩
 clear g0 g1 c0 c1 c2 c3 c4 c5 HC
 by_cases h0 : eg = 0
 · obtain ⟨k, rfl, hk, hr, hal, hbl, hfl⟩ := HOk.out h0
   subst h0
   have HTx := Hd (pText_any va vb vf k Q N a b f w2 hk (RI.below HA.out (HB0.out.trans (hb2.mono HB0.out.size))) (RI.below HD.out (HB0.out.trans (hb2.mono HB0.out.size))) (RI.below HF.out (HB0.out.trans (hb2.mono HB0.out.size))) (by omega) (by omega) (by omega) (fun z hz => by have := hr z hz; omega) (HT.out.below (HB0.out.trans (hb2.mono HB0.out.size))))
   have HTv2 : Hid (tv = strV (txtS k Q N a b f)) := by show _ = _; rw [HTv.out, if_pos rfl, Int.toNat_natCast]
   have c0 := (HXc.out.bel hb2).cell 0
   have c1 := (HXc.out.bel hb2).cell 1
   have c2 := (HXc.out.bel hb2).cell 2
   have c3 := (HXc.out.bel hb2).cell 3
   have c4 := (HXc.out.bel hb2).cell 4
   have c5 := (HXc.out.bel hb2).cell 5
   have HB2 := Hd (HB0.out.trans (hb2.mono HB0.out.size))
   clear hb2
   clear HOk hr HTv
   generalize strV (txtS k Q N a b f) = sv at *
   go_wp2_with fail
   refine HTx.out.mono ?_
   rintro e w3 ⟨rfl, hb3⟩
   have HB3 := Hd (HB2.out.trans (hb3.mono HB2.out.size))
   clear hb3
   go_wp2
   go_ret2
   exact ⟨by rw [HTv2.out]; rfl, HB3.out⟩
 · have HTv2 : Hid (tv = .string ⟨#[]⟩) := by show _ = _; rw [HTv.out, if_neg h0]; rfl
   have t1 : (eg != 0) = true := by simpa using h0
   have HB2 := Hd (HB0.out.trans (hb2.mono HB0.out.size))
   clear hb2
   clear HOk h0 HTv
   go_wp2
   go_ret2
   exact ⟨by rw [HTv2.out]; rfl, HB2.out⟩

theorem kfield3 (S : ByteArray) (x y : Int) (n : Nat) (W : World) : (Instr.field 85 (.agg #[.string S, .int .i64 x, .int .i64 y, .func (.func n) #[] #[]]) 3).run Tryz.prog W = .ok (.func (.func n) #[] #[]) W := by
 simp [Instr.field, run_underlying Tryz.underlying85, asAgg, go_sem]
def MkQ (P : Int -> List Int -> Prop) (W : World) (e : Ending) (w' : World) : Prop :=
 ∃ (A0 : Option Addr) (l0 c0 : Nat) (er : Int) (L : List Int), e = .returned (.tuple #[.slice A0 l0 c0, .int .i64 er]) /\ P er L /\ (er = 0 -> RI w' (.slice A0 l0 c0) L /\ L.length <= 1000 /\ ∀ z ∈ L, -1048576 <= z /\ z <= 1048576) /\ Below W.heap.size W w'
def mkT (k : Nat) (Q N : Int) (a b f L : List Int) : List UInt8 := txtS k Q N a b f ++ [32, 58] ++ numT L
def MdP (m : Nat) (kk Q N : Int) (a b f : List Int) (P : Int -> List Int -> Prop) (t : List UInt8) (er : Int) : Prop :=
 (formA m kk Q N a b f ≠ 0 /\ er = formA m kk Q N a b f /\ t = []) \/
     (formA m kk Q N a b f = 0 /\ ∃ e0 L, P e0 L /\ ((e0 ≠ 0 /\ er = e0 /\ t = []) \/ (e0 = 0 /\ ((er = 19 /\ t = [] /\ 65536 < (mkT kk.toNat Q N a b f L).length) \/ (er = 0 /\ t = mkT kk.toNat Q N a b f L /\ (mkT kk.toNat Q N a b f L).length <= 65536)))))
def MdQ (m : Nat) (kk Q N : Int) (a b f : List Int) (P : Int -> List Int -> Prop) (w0 : World) (e : Ending) (w' : World) : Prop :=
 ∃ (t : List UInt8) (er : Int), e = .returned (.tuple #[strV t, .int .i64 er]) /\ MdP m kk Q N a b f P t er /\ Below w0.heap.size w0 w'
theorem made_any (g va vb vf : Value) (m : Nat) (kk Q N : Int) (es : List Tri) (a b f : List Int) (w : World) (hg : GV w g m es) (ha : RI w va a) (hb : RI w vb b) (hf : RI w vf f) (hm1 : 1 <= m) (hm : m <= 12) (ht : TB w) (P : Int -> List Int -> Prop)
   (hC : formA m kk Q N a b f = 0 -> ∀ W, Below w.heap.size w W -> Calls Tryz.prog (pfn kk.toNat) #[g, .agg #[.int .i64 kk, .int .i64 Q, .int .i64 N, va, vb, vf]] W fun e w' => MkQ P W e w') :
   Calls Tryz.prog 41 #[g, .agg #[.int .i64 kk, .int .i64 Q, .int .i64 N, va, vb, vf]] w fun e w' => MdQ m kk Q N a b f P w e w' := by
 have HFm0 : Hid (∀ W, Below w.heap.size w W -> Calls Tryz.prog 35 #[g, .agg #[.int .i64 kk, .int .i64 Q, .int .i64 N, va, vb, vf]] W fun e w' => e = .returned (.int .i64 (formA m kk Q N a b f)) /\ Below W.heap.size W w') := fun W h => pFormA_any g va vb vf m kk Q N es a b f W (hg.below h) (RI.below ha h) (RI.below hb h) (RI.below hf h) hm1 hm
 have HOk : Hid (formA m kk Q N a b f = 0 -> ∃ k : Nat, kk = k /\ k < 9 /\ (∀ z ∈ txtL k Q N a b f, -1048576 <= z /\ z <= 1048576) /\ a.length <= 12 /\ b.length <= 12 /\ f.length <= 12) := fun h => by
   unfold formA at h
   by_cases h2 : kk < 0 \/ 8 < kk
   · rw [if_pos h2] at h; cases h
   · rw [if_neg h2] at h
     exact ⟨kk.toNat, by omega, by omega, (formG_ok h).txt hm⟩
 have HA := Hd ha
 have HD := Hd hb
 have HF := Hd hf
 have HT := Hd ht
 have HCe := Hd hC
 clear hC
 unfold MdQ
 obtain ⟨fe, hfe⟩ : ∃ fe, fe = formA m kk Q N a b f := ⟨_, rfl⟩
 simp only [<- hfe] at HFm0 HOk HCe
 have HFe := Hd hfe
 clear hfe
 obtain ⟨A, c, rfl, -⟩ := hg.open_
 obtain ⟨W0, hW0⟩ : ∃ W0, W0 = (w.alloc (.cells #[.int .i64 m, .slice A es.length c] 25)).alloc (.cells #[.int .i64 kk, .int .i64 Q, .int .i64 N, va, vb, vf] 40) := ⟨_, rfl⟩
 have hb0 : Below w.heap.size w W0 := by rw [hW0]; exact (below_alloc w _).alloc (by simp) _
 have hxg : BL W0 w.heap.size 25 [.int .i64 m, .slice A es.length c] := by rw [hW0]; exact (BL.new' w _ _).alloc _
 have hxc : BL W0 (w.heap.size + 1) 40 [.int .i64 kk, .int .i64 Q, .int .i64 N, va, vb, vf] := by
   rw [hW0]
   have := BL.new' (w.alloc (.cells #[.int .i64 m, .slice A es.length c] 25)) #[.int .i64 kk, .int .i64 Q, .int .i64 N, va, vb, vf] 40
   rwa [World.size_alloc] at this
 have HXg := Hd hxg
 have HXc := Hd hxc
 have HG0 := Hd (hg.below hb0)
 have HB0 := Hd hb0
 have HW0 := Hd hW0
 clear hg hxg hxc hW0 hb0
 obtain ⟨Aa, ca, rfl, -⟩ := ha.open_
 obtain ⟨Ab, cb, rfl, -⟩ := hb.open_
 obtain ⟨Af, cf, rfl, -⟩ := hf.open_
 clear ha hb hf ht
 have HFm := Hd (HFm0.out W0 HB0.out)
 have g0 := HXg.out.cell 0
 have g1 := HXg.out.cell 1
 have d0 := HXc.out.cell 0
 have d1 := HXc.out.cell 1
 have d2 := HXc.out.cell 2
 have d3 := HXc.out.cell 3
 have d4 := HXc.out.cell 4
 have d5 := HXc.out.cell 5
 clear HFm0
 go_enter Tryz.func41, Tryz.ntmps41
 go_upto_region 1 with fail
 rw [<- HW0.out]
 go_wp2_with fail
 refine HFm.out.mono ?_
 rintro e w2 ⟨rfl, hb2⟩
 have HB2 := Hd (HB0.out.trans (hb2.mono HB0.out.size))
 have HXg2 := Hd (HXg.out.bel hb2)
 have HXc2 := Hd (HXc.out.bel hb2)
 clear hb2 HFm g0 g1 d0 d1 d2 d3 d4 d5
 by_cases h0 : fe ≠ 0
 · have t1 : (fe != 0) = true := by simpa using h0
   have H0 := Hd h0
   clear h0 HOk HCe
   go_wp2
   go_ret2
   exact ⟨[], fe, rfl, .inl ⟨by rw [<- HFe.out]; exact H0.out, HFe.out, rfl⟩, HB2.out⟩
 have h00 : fe = 0 := by omega
 subst h00
 obtain ⟨k, rfl, hk9, hr, hal, hbl, hfl⟩ := HOk.out rfl
 have HRn := Hd hr
 rw [Int.toNat_natCast] at HCe
 have hix := pkL_S k hk9
 rw [show (pk k).toArray = #[strV (kwL.getD k []), .int .i64 (pm k), .int .i64 (kl k), .func (.func (pfn k)) #[] #[]] from rfl] at hix
 have hpf : pfn k = 77 \/ pfn k = 78 \/ pfn k = 79 \/ pfn k = 81 \/ pfn k = 82 \/ pfn k = 83 \/ pfn k = 85 \/ pfn k = 86 \/ pfn k = 87 := by
   match k, hk9 with
   | 0, _ | 1, _ | 2, _ | 3, _ | 4, _ | 5, _ | 6, _ | 7, _ | 8, _ => decide
 have HTx : Hid (∀ W, Below w.heap.size w W -> Calls Tryz.prog 32 #[.agg #[.int .i64 (k : Int), .int .i64 Q, .int .i64 N, .slice Aa a.length ca, .slice Ab b.length cb, .slice Af f.length cf]] W fun e w' => e = .returned (strV (txtS k Q N a b f)) /\ Below W.heap.size W w') := fun W h =>
   pText_any _ _ _ k Q N a b f W hk9 (RI.below HA.out h) (RI.below HD.out h) (RI.below HF.out h) (by omega) (by omega) (by omega) (fun z hz => by have := HRn.out z hz; omega) (HT.out.below h)
 have HTl : Hid ((txtS k Q N a b f).length <= 2000) := by
   have hkwl : (kwL.getD k []).length <= 11 := by
     match k, hk9 with
     | 0, _ | 1, _ | 2, _ | 3, _ | 4, _ | 5, _ | 6, _ | 7, _ | 8, _ => decide
   have h1 := numT_len (txtL k Q N a b f) (fun z hz => by have := HRn.out z hz; omega)
   have h2 : (txtL k Q N a b f).length <= 40 := by
     unfold txtL
     cases kq k <;> cases kn k <;> cases kf k <;> simp <;> omega
   show _ <= _
   unfold txtS
   rw [List.length_append]; omega
 have HMk : Hid (∀ L, mkT k Q N a b f L = txtS k Q N a b f ++ [32, 58] ++ numT L) := fun L => rfl
 generalize txtS k Q N a b f = TX at *
 have HCx : Hid (∀ W, Below w2.heap.size w2 W -> Calls Tryz.prog (pfn k) #[.agg #[.int .i64 (m : Int), .slice A es.length c], .agg #[.int .i64 (k : Int), .int .i64 Q, .int .i64 N, .slice Aa a.length ca, .slice Ab b.length cb, .slice Af f.length cf]] W fun e w' => MkQ P W e w') := fun W h => HCe.out rfl W (HB2.out.trans (h.mono HB2.out.size))
 have hk9i : (k : Int) < 9 := by omega
 clear h0 HOk HCe hr hal hbl hfl HRn
 generalize a.length = la at *
 generalize b.length = lb at *
 generalize f.length = lf at *
 have HKp : Hid (∀ W : World, Below w2.heap.size w2 W -> (fun W' : World => (W'.cell? ⟨w.heap.size, 0, none⟩ = some (.int .i64 (m : Int)) /\ W'.cell? ⟨w.heap.size, 1, none⟩ = some (.slice A es.length c)) /\ W'.cell? ⟨w.heap.size + 1, 0, none⟩ = some (.int .i64 (k : Int)) /\ W'.cell? ⟨w.heap.size + 1, 1, none⟩ = some (.int .i64 Q) /\ W'.cell? ⟨w.heap.size + 1, 2, none⟩ = some (.int .i64 N) /\ W'.cell? ⟨w.heap.size + 1, 3, none⟩ = some (.slice Aa la ca) /\ W'.cell? ⟨w.heap.size + 1, 4, none⟩ = some (.slice Ab lb cb) /\ W'.cell? ⟨w.heap.size + 1, 5, none⟩ = some (.slice Af lf cf)) W) := fun W h =>
   ⟨⟨(HXg2.out.bel h).cell 0, (HXg2.out.bel h).cell 1⟩, (HXc2.out.bel h).cell 0, (HXc2.out.bel h).cell 1, (HXc2.out.bel h).cell 2, (HXc2.out.bel h).cell 3, (HXc2.out.bel h).cell 4, (HXc2.out.bel h).cell 5⟩
 obtain ⟨S, hS⟩ : ∃ S : ByteArray, S = ⟨(kwL.getD k []).toArray⟩ := ⟨_, rfl⟩
 rw [show strV (kwL.getD k []) = .string S by rw [hS]; rfl] at hix
 clear hS
 generalize pm k = pmk at *
 generalize kl k = klk at *
 generalize pfn k = pfk at *
 obtain ⟨wo, hwo⟩ : ∃ wo, wo = w2 := ⟨_, rfl⟩
 subst hwo
 have HBd := Hd ((Below.refl wo.heap.size wo).drew)
 have HS0 := Hd (HKp.out _ HBd.out)
 have HKd := Hd (pKinds_any wo.drew)
 go_upto_region 4 with fail
 go_cut [7, 8] from 16 to 26 (fun p ev wx => ∃ (A0 : Option Addr) (l0 c0 : Nat) (e0 : Int) (L : List Int), p = .slice A0 l0 c0 /\ ev = .int .i64 e0 /\ Hid (P e0 L) /\ Hid (e0 = 0 -> RI wx (.slice A0 l0 c0) L /\ L.length <= 1000 /\ ∀ z ∈ L, -1048576 <= z /\ z <= 1048576) /\ Hid (Below wo.heap.size wo wx))
 case first =>
   rcases hpf with rfl | rfl | rfl | rfl | rfl | rfl | rfl | rfl | rfl
   · have hfd := kfield3 S pmk klk 77
     go_region_held3 (fun W' : World => (W'.cell? ⟨w.heap.size, 0, none⟩ = some (.int .i64 (m : Int)) /\ W'.cell? ⟨w.heap.size, 1, none⟩ = some (.slice A es.length c)) /\ W'.cell? ⟨w.heap.size + 1, 0, none⟩ = some (.int .i64 (k : Int)) /\ W'.cell? ⟨w.heap.size + 1, 1, none⟩ = some (.int .i64 Q) /\ W'.cell? ⟨w.heap.size + 1, 2, none⟩ = some (.int .i64 N) /\ W'.cell? ⟨w.heap.size + 1, 3, none⟩ = some (.slice Aa la ca) /\ W'.cell? ⟨w.heap.size + 1, 4, none⟩ = some (.slice Ab lb cb) /\ W'.cell? ⟨w.heap.size + 1, 5, none⟩ = some (.slice Af lf cf)) (first | exact HS0.out | exact HS1.out | exact HS2.out)
       (first
         | (go_at_call 45; refine HKd.out.mono ?_; rintro e w3 ⟨rfl, hb3⟩; have HB3 := Hd (HBd.out.trans hb3); have HS1 := Hd (HKp.out _ HB3.out); clear hb3)
         | (go_at_call 77; refine (HCx.out _ HB3.out).mono ?_; rintro e w4 ⟨A0, l0, c0, e0, L, rfl, hP, hL, hb4⟩; have HB4 := Hd (HB3.out.trans (hb4.mono HB3.out.size)); have HS2 := Hd (HKp.out _ HB4.out); have HP4 := Hd hP; have HL4 := Hd hL; clear hb4 hP hL))
     go_wp2_with fail
     go_meet
     exact ⟨A0, l0, c0, e0, L, rfl, rfl, HP4.out, HL4.out, HB4.out⟩
   · have hfd := kfield3 S pmk klk 78
     go_region_held3 (fun W' : World => (W'.cell? ⟨w.heap.size, 0, none⟩ = some (.int .i64 (m : Int)) /\ W'.cell? ⟨w.heap.size, 1, none⟩ = some (.slice A es.length c)) /\ W'.cell? ⟨w.heap.size + 1, 0, none⟩ = some (.int .i64 (k : Int)) /\ W'.cell? ⟨w.heap.size + 1, 1, none⟩ = some (.int .i64 Q) /\ W'.cell? ⟨w.heap.size + 1, 2, none⟩ = some (.int .i64 N) /\ W'.cell? ⟨w.heap.size + 1, 3, none⟩ = some (.slice Aa la ca) /\ W'.cell? ⟨w.heap.size + 1, 4, none⟩ = some (.slice Ab lb cb) /\ W'.cell? ⟨w.heap.size + 1, 5, none⟩ = some (.slice Af lf cf)) (first | exact HS0.out | exact HS1.out | exact HS2.out)
       (first
         | (go_at_call 45; refine HKd.out.mono ?_; rintro e w3 ⟨rfl, hb3⟩; have HB3 := Hd (HBd.out.trans hb3); have HS1 := Hd (HKp.out _ HB3.out); clear hb3)
         | (go_at_call 78; refine (HCx.out _ HB3.out).mono ?_; rintro e w4 ⟨A0, l0, c0, e0, L, rfl, hP, hL, hb4⟩; have HB4 := Hd (HB3.out.trans (hb4.mono HB3.out.size)); have HS2 := Hd (HKp.out _ HB4.out); have HP4 := Hd hP; have HL4 := Hd hL; clear hb4 hP hL))
     go_wp2_with fail
     go_meet
     exact ⟨A0, l0, c0, e0, L, rfl, rfl, HP4.out, HL4.out, HB4.out⟩
   · have hfd := kfield3 S pmk klk 79
     go_region_held3 (fun W' : World => (W'.cell? ⟨w.heap.size, 0, none⟩ = some (.int .i64 (m : Int)) /\ W'.cell? ⟨w.heap.size, 1, none⟩ = some (.slice A es.length c)) /\ W'.cell? ⟨w.heap.size + 1, 0, none⟩ = some (.int .i64 (k : Int)) /\ W'.cell? ⟨w.heap.size + 1, 1, none⟩ = some (.int .i64 Q) /\ W'.cell? ⟨w.heap.size + 1, 2, none⟩ = some (.int .i64 N) /\ W'.cell? ⟨w.heap.size + 1, 3, none⟩ = some (.slice Aa la ca) /\ W'.cell? ⟨w.heap.size + 1, 4, none⟩ = some (.slice Ab lb cb) /\ W'.cell? ⟨w.heap.size + 1, 5, none⟩ = some (.slice Af lf cf)) (first | exact HS0.out | exact HS1.out | exact HS2.out)
       (first
         | (go_at_call 45; refine HKd.out.mono ?_; rintro e w3 ⟨rfl, hb3⟩; have HB3 := Hd (HBd.out.trans hb3); have HS1 := Hd (HKp.out _ HB3.out); clear hb3)
         | (go_at_call 79; refine (HCx.out _ HB3.out).mono ?_; rintro e w4 ⟨A0, l0, c0, e0, L, rfl, hP, hL, hb4⟩; have HB4 := Hd (HB3.out.trans (hb4.mono HB3.out.size)); have HS2 := Hd (HKp.out _ HB4.out); have HP4 := Hd hP; have HL4 := Hd hL; clear hb4 hP hL))
     go_wp2_with fail
     go_meet
     exact ⟨A0, l0, c0, e0, L, rfl, rfl, HP4.out, HL4.out, HB4.out⟩
   · have hfd := kfield3 S pmk klk 81
     go_region_held3 (fun W' : World => (W'.cell? ⟨w.heap.size, 0, none⟩ = some (.int .i64 (m : Int)) /\ W'.cell? ⟨w.heap.size, 1, none⟩ = some (.slice A es.length c)) /\ W'.cell? ⟨w.heap.size + 1, 0, none⟩ = some (.int .i64 (k : Int)) /\ W'.cell? ⟨w.heap.size + 1, 1, none⟩ = some (.int .i64 Q) /\ W'.cell? ⟨w.heap.size + 1, 2, none⟩ = some (.int .i64 N) /\ W'.cell? ⟨w.heap.size + 1, 3, none⟩ = some (.slice Aa la ca) /\ W'.cell? ⟨w.heap.size + 1, 4, none⟩ = some (.slice Ab lb cb) /\ W'.cell? ⟨w.heap.size + 1, 5, none⟩ = some (.slice Af lf cf)) (first | exact HS0.out | exact HS1.out | exact HS2.out)
       (first
         | (go_at_call 45; refine HKd.out.mono ?_; rintro e w3 ⟨rfl, hb3⟩; have HB3 := Hd (HBd.out.trans hb3); have HS1 := Hd (HKp.out _ HB3.out); clear hb3)
         | (go_at_call 81; refine (HCx.out _ HB3.out).mono ?_; rintro e w4 ⟨A0, l0, c0, e0, L, rfl, hP, hL, hb4⟩; have HB4 := Hd (HB3.out.trans (hb4.mono HB3.out.size)); have HS2 := Hd (HKp.out _ HB4.out); have HP4 := Hd hP; have HL4 := Hd hL; clear hb4 hP hL))
     go_wp2_with fail
     go_meet
     exact ⟨A0, l0, c0, e0, L, rfl, rfl, HP4.out, HL4.out, HB4.out⟩
   · have hfd := kfield3 S pmk klk 82
     go_region_held3 (fun W' : World => (W'.cell? ⟨w.heap.size, 0, none⟩ = some (.int .i64 (m : Int)) /\ W'.cell? ⟨w.heap.size, 1, none⟩ = some (.slice A es.length c)) /\ W'.cell? ⟨w.heap.size + 1, 0, none⟩ = some (.int .i64 (k : Int)) /\ W'.cell? ⟨w.heap.size + 1, 1, none⟩ = some (.int .i64 Q) /\ W'.cell? ⟨w.heap.size + 1, 2, none⟩ = some (.int .i64 N) /\ W'.cell? ⟨w.heap.size + 1, 3, none⟩ = some (.slice Aa la ca) /\ W'.cell? ⟨w.heap.size + 1, 4, none⟩ = some (.slice Ab lb cb) /\ W'.cell? ⟨w.heap.size + 1, 5, none⟩ = some (.slice Af lf cf)) (first | exact HS0.out | exact HS1.out | exact HS2.out)
       (first
         | (go_at_call 45; refine HKd.out.mono ?_; rintro e w3 ⟨rfl, hb3⟩; have HB3 := Hd (HBd.out.trans hb3); have HS1 := Hd (HKp.out _ HB3.out); clear hb3)
         | (go_at_call 82; refine (HCx.out _ HB3.out).mono ?_; rintro e w4 ⟨A0, l0, c0, e0, L, rfl, hP, hL, hb4⟩; have HB4 := Hd (HB3.out.trans (hb4.mono HB3.out.size)); have HS2 := Hd (HKp.out _ HB4.out); have HP4 := Hd hP; have HL4 := Hd hL; clear hb4 hP hL))
     go_wp2_with fail
     go_meet
     exact ⟨A0, l0, c0, e0, L, rfl, rfl, HP4.out, HL4.out, HB4.out⟩
   · have hfd := kfield3 S pmk klk 83
     go_region_held3 (fun W' : World => (W'.cell? ⟨w.heap.size, 0, none⟩ = some (.int .i64 (m : Int)) /\ W'.cell? ⟨w.heap.size, 1, none⟩ = some (.slice A es.length c)) /\ W'.cell? ⟨w.heap.size + 1, 0, none⟩ = some (.int .i64 (k : Int)) /\ W'.cell? ⟨w.heap.size + 1, 1, none⟩ = some (.int .i64 Q) /\ W'.cell? ⟨w.heap.size + 1, 2, none⟩ = some (.int .i64 N) /\ W'.cell? ⟨w.heap.size + 1, 3, none⟩ = some (.slice Aa la ca) /\ W'.cell? ⟨w.heap.size + 1, 4, none⟩ = some (.slice Ab lb cb) /\ W'.cell? ⟨w.heap.size + 1, 5, none⟩ = some (.slice Af lf cf)) (first | exact HS0.out | exact HS1.out | exact HS2.out)
       (first
         | (go_at_call 45; refine HKd.out.mono ?_; rintro e w3 ⟨rfl, hb3⟩; have HB3 := Hd (HBd.out.trans hb3); have HS1 := Hd (HKp.out _ HB3.out); clear hb3)
         | (go_at_call 83; refine (HCx.out _ HB3.out).mono ?_; rintro e w4 ⟨A0, l0, c0, e0, L, rfl, hP, hL, hb4⟩; have HB4 := Hd (HB3.out.trans (hb4.mono HB3.out.size)); have HS2 := Hd (HKp.out _ HB4.out); have HP4 := Hd hP; have HL4 := Hd hL; clear hb4 hP hL))
     go_wp2_with fail
     go_meet
     exact ⟨A0, l0, c0, e0, L, rfl, rfl, HP4.out, HL4.out, HB4.out⟩
   · have hfd := kfield3 S pmk klk 85
     go_region_held3 (fun W' : World => (W'.cell? ⟨w.heap.size, 0, none⟩ = some (.int .i64 (m : Int)) /\ W'.cell? ⟨w.heap.size, 1, none⟩ = some (.slice A es.length c)) /\ W'.cell? ⟨w.heap.size + 1, 0, none⟩ = some (.int .i64 (k : Int)) /\ W'.cell? ⟨w.heap.size + 1, 1, none⟩ = some (.int .i64 Q) /\ W'.cell? ⟨w.heap.size + 1, 2, none⟩ = some (.int .i64 N) /\ W'.cell? ⟨w.heap.size + 1, 3, none⟩ = some (.slice Aa la ca) /\ W'.cell? ⟨w.heap.size + 1, 4, none⟩ = some (.slice Ab lb cb) /\ W'.cell? ⟨w.heap.size + 1, 5, none⟩ = some (.slice Af lf cf)) (first | exact HS0.out | exact HS1.out | exact HS2.out)
       (first
         | (go_at_call 45; refine HKd.out.mono ?_; rintro e w3 ⟨rfl, hb3⟩; have HB3 := Hd (HBd.out.trans hb3); have HS1 := Hd (HKp.out _ HB3.out); clear hb3)
         | (go_at_call 85; refine (HCx.out _ HB3.out).mono ?_; rintro e w4 ⟨A0, l0, c0, e0, L, rfl, hP, hL, hb4⟩; have HB4 := Hd (HB3.out.trans (hb4.mono HB3.out.size)); have HS2 := Hd (HKp.out _ HB4.out); have HP4 := Hd hP; have HL4 := Hd hL; clear hb4 hP hL))
     go_wp2_with fail
     go_meet
     exact ⟨A0, l0, c0, e0, L, rfl, rfl, HP4.out, HL4.out, HB4.out⟩
   · have hfd := kfield3 S pmk klk 86
     go_region_held3 (fun W' : World => (W'.cell? ⟨w.heap.size, 0, none⟩ = some (.int .i64 (m : Int)) /\ W'.cell? ⟨w.heap.size, 1, none⟩ = some (.slice A es.length c)) /\ W'.cell? ⟨w.heap.size + 1, 0, none⟩ = some (.int .i64 (k : Int)) /\ W'.cell? ⟨w.heap.size + 1, 1, none⟩ = some (.int .i64 Q) /\ W'.cell? ⟨w.heap.size + 1, 2, none⟩ = some (.int .i64 N) /\ W'.cell? ⟨w.heap.size + 1, 3, none⟩ = some (.slice Aa la ca) /\ W'.cell? ⟨w.heap.size + 1, 4, none⟩ = some (.slice Ab lb cb) /\ W'.cell? ⟨w.heap.size + 1, 5, none⟩ = some (.slice Af lf cf)) (first | exact HS0.out | exact HS1.out | exact HS2.out)
       (first
         | (go_at_call 45; refine HKd.out.mono ?_; rintro e w3 ⟨rfl, hb3⟩; have HB3 := Hd (HBd.out.trans hb3); have HS1 := Hd (HKp.out _ HB3.out); clear hb3)
         | (go_at_call 86; refine (HCx.out _ HB3.out).mono ?_; rintro e w4 ⟨A0, l0, c0, e0, L, rfl, hP, hL, hb4⟩; have HB4 := Hd (HB3.out.trans (hb4.mono HB3.out.size)); have HS2 := Hd (HKp.out _ HB4.out); have HP4 := Hd hP; have HL4 := Hd hL; clear hb4 hP hL))
     go_wp2_with fail
     go_meet
     exact ⟨A0, l0, c0, e0, L, rfl, rfl, HP4.out, HL4.out, HB4.out⟩
   · have hfd := kfield3 S pmk klk 87
     go_region_held3 (fun W' : World => (W'.cell? ⟨w.heap.size, 0, none⟩ = some (.int .i64 (m : Int)) /\ W'.cell? ⟨w.heap.size, 1, none⟩ = some (.slice A es.length c)) /\ W'.cell? ⟨w.heap.size + 1, 0, none⟩ = some (.int .i64 (k : Int)) /\ W'.cell? ⟨w.heap.size + 1, 1, none⟩ = some (.int .i64 Q) /\ W'.cell? ⟨w.heap.size + 1, 2, none⟩ = some (.int .i64 N) /\ W'.cell? ⟨w.heap.size + 1, 3, none⟩ = some (.slice Aa la ca) /\ W'.cell? ⟨w.heap.size + 1, 4, none⟩ = some (.slice Ab lb cb) /\ W'.cell? ⟨w.heap.size + 1, 5, none⟩ = some (.slice Af lf cf)) (first | exact HS0.out | exact HS1.out | exact HS2.out)
       (first
         | (go_at_call 45; refine HKd.out.mono ?_; rintro e w3 ⟨rfl, hb3⟩; have HB3 := Hd (HBd.out.trans hb3); have HS1 := Hd (HKp.out _ HB3.out); clear hb3)
         | (go_at_call 87; refine (HCx.out _ HB3.out).mono ?_; rintro e w4 ⟨A0, l0, c0, e0, L, rfl, hP, hL, hb4⟩; have HB4 := Hd (HB3.out.trans (hb4.mono HB3.out.size)); have HS2 := Hd (HKp.out _ HB4.out); have HP4 := Hd hP; have HL4 := Hd hL; clear hb4 hP hL))
     go_wp2_with fail
     go_meet
     exact ⟨A0, l0, c0, e0, L, rfl, rfl, HP4.out, HL4.out, HB4.out⟩
 case rest =>
   obtain ⟨wd, hwd⟩ : ∃ wd, wd = wc := ⟨_, rfl⟩
   subst hwd
   obtain ⟨A0, l0, c0, e0, L, rfl, rfl, hP, hL, hbc⟩ := hcut
   have HBd2 := Hd (HB2.out.trans (hbc.out.mono HB2.out.size))
   have HXd := Hd (HXc2.out.bel hbc.out)
   have HTd := Hd (HTx.out wd HBd2.out)
   clear hbc HKp HCx HBd HS0 HKd hix hpf HTx
   by_cases he0 : e0 ≠ 0
   · have t2 : (e0 != 0) = true := by simpa using he0
     have H0 := Hd he0
     clear he0 hL
     go_wp2
     go_ret2
     exact ⟨[], e0, rfl, .inr ⟨HFe.out.symm, e0, L, hP.out, .inl ⟨H0.out, rfl, rfl⟩⟩, HBd2.out⟩
   have he00 : e0 = 0 := by omega
   subst he00
   obtain ⟨hLr, hLl, hLb⟩ := hL.out rfl
   have d0 := HXd.out.cell 0
   have d1 := HXd.out.cell 1
   have d2 := HXd.out.cell 2
   have d3 := HXd.out.cell 3
   have d4 := HXd.out.cell 4
   have d5 := HXd.out.cell 5
   have HNm : Hid (∀ W, Below wd.heap.size wd W -> Calls Tryz.prog 60 #[.slice A0 l0 c0] W fun e w' => e = .returned (.string ⟨(numT L).toArray⟩) /\ Below W.heap.size W w') := fun W h =>
     pNumbers_any _ L W (RI.below hLr h) (by omega) (fun z hz => by have := hLb z hz; omega) (HT.out.below (HBd2.out.trans (h.mono HBd2.out.size)))
   have hnl := numT_len L (fun z hz => by have := hLb z hz; omega)
   have htl := HTl.out
   have hadd := fun W => run_string_add_lists (P := Tryz.prog) W TX [32, 58] (by omega) (by simp)
   have hadd2 := fun W => run_string_add_lists (P := Tryz.prog) W (TX ++ [32, 58]) (numT L) (by simp; omega) (by omega)
   have HLn : Hid ((ByteArray.mk (TX ++ [32, 58] ++ numT L).toArray).size = (mkT k Q N a b f L).length) := by show _ = _; rw [HMk.out]; simp [ByteArray.size]
   have HMl : Hid ((mkT k Q N a b f L).length <= 100000) := by show _ <= _; rw [HMk.out]; simp; omega
   have HSt : Hid (strV (mkT k Q N a b f L) = .string (ByteArray.mk (TX ++ [32, 58] ++ numT L).toArray)) := by show _ = _; rw [HMk.out]; rfl
   rw [show strV TX = .string ⟨TX.toArray⟩ from rfl] at HTd
   generalize (ByteArray.mk (TX ++ [32, 58] ++ numT L).toArray) = LS at *
   generalize (ByteArray.mk (TX ++ [32, 58]).toArray) = TP at *
   generalize (ByteArray.mk (numT L).toArray) = NS at *
   generalize (ByteArray.mk TX.toArray) = TS at *
   obtain ⟨ml, hml⟩ : ∃ ml, ml = (mkT k Q N a b f L).length := ⟨_, rfl⟩
   rw [<- hml] at HLn HMl
   have hls := HLn.out
   have HMe := Hd hml
   have hml2 := HMl.out
   clear hL hLr hLl hLb hnl htl he0 HMk HTl hml
   go_wp2_with fail
   refine HTd.out.mono ?_
   rintro e w5 ⟨rfl, hb5⟩
   have HB5 := Hd (HBd2.out.trans (hb5.mono HBd2.out.size))
   have HN5 := Hd (HNm.out w5 hb5)
   clear hb5 HTd HNm d0 d1 d2 d3 d4 d5
   go_wp2_with fail
   refine HN5.out.mono ?_
   rintro e w6 ⟨rfl, hb6⟩
   have HB6 := Hd (HB5.out.trans (hb6.mono HB5.out.size))
   clear hb6 HN5
   by_cases hlong : (65536 : Int) < (ml : Int)
   · go_wp2
     go_ret2
     exact ⟨[], 19, rfl, .inr ⟨HFe.out.symm, 0, L, hP.out, .inr ⟨rfl, .inl ⟨rfl, rfl, by show 65536 < (mkT k Q N a b f L).length; have := HMe.out; omega⟩⟩⟩, HB6.out⟩
   · go_wp2
     go_ret2
     exact ⟨mkT k Q N a b f L, 0, by rw [HSt.out] <;> rfl, .inr ⟨HFe.out.symm, 0, L, hP.out, .inr ⟨rfl, .inr ⟨rfl, rfl, by show (mkT k Q N a b f L).length <= 65536; have := HMe.out; omega⟩⟩⟩, HB6.out⟩

def MaP (n : Int) (es : List Tri) (kk Q N : Int) (a b f : List Int) (P : Int -> List Int -> Prop) (t : List UInt8) (er : Int) : Prop :=
 (eGiven n es [] ≠ 0 /\ er = eGiven n es [] /\ t = []) \/ (eGiven n es [] = 0 /\ MdP n.toNat kk Q N a b f P t er)
theorem Make_any (g va vb vf : Value) (n : Int) (kk Q N : Int) (es : List Tri) (a b f : List Int) (w : World) (hg : GV w g n es) (ha : RI w va a) (hb : RI w vb b) (hf : RI w vf f) (ht : TB w) (P : Int -> List Int -> Prop)
   (hC : eGiven n es [] = 0 -> formA n.toNat kk Q N a b f = 0 -> ∀ W, Below w.heap.size w W -> Calls Tryz.prog (pfn kk.toNat) #[g, .agg #[.int .i64 kk, .int .i64 Q, .int .i64 N, va, vb, vf]] W fun e w' => MkQ P W e w') :
   Calls Tryz.prog 21 #[g, .agg #[.int .i64 kk, .int .i64 Q, .int .i64 N, va, vb, vf]] w fun e w' => ∃ (t : List UInt8) (er : Int), e = .returned (.tuple #[strV t, .int .i64 er]) /\ MaP n es kk Q N a b f P t er /\ Below w.heap.size w w' := by
 have HMd : Hid (eGiven n es [] = 0 -> ∀ W, Below w.heap.size w W -> Calls Tryz.prog 41 #[g, .agg #[.int .i64 kk, .int .i64 Q, .int .i64 N, va, vb, vf]] W fun e w' => MdQ n.toNat kk Q N a b f P W e w') := fun h0 W h => by
   obtain ⟨m, rfl, h1, h2, -⟩ := eGivenP_ok h0
   exact made_any g va vb vf m kk Q N es a b f W (hg.below h) (RI.below ha h) (RI.below hb h) (RI.below hf h) h1 h2 (ht.below h) P (fun hf W' h' => hC h0 hf W' (h.trans (h'.mono h.size)))
 have HA := Hd ha
 have HD := Hd hb
 have HF := Hd hf
 have HPu : Hid (∀ t er, (eGiven n es [] ≠ 0 /\ er = eGiven n es [] /\ t = []) \/ (eGiven n es [] = 0 /\ MdP n.toNat kk Q N a b f P t er) -> MaP n es kk Q N a b f P t er) := fun t er h => h
 clear hC ht
 obtain ⟨A, c, rfl, -⟩ := hg.open_
 obtain ⟨W0, hW0⟩ : ∃ W0, W0 = (w.alloc (.cells #[.int .i64 n, .slice A es.length c] 25)).alloc (.cells #[.int .i64 kk, .int .i64 Q, .int .i64 N, va, vb, vf] 40) := ⟨_, rfl⟩
 have hb0 : Below w.heap.size w W0 := by rw [hW0]; exact (below_alloc w _).alloc (by simp) _
 have hxg : BL W0 w.heap.size 25 [.int .i64 n, .slice A es.length c] := by rw [hW0]; exact (BL.new' w _ _).alloc _
 have hxc : BL W0 (w.heap.size + 1) 40 [.int .i64 kk, .int .i64 Q, .int .i64 N, va, vb, vf] := by
   rw [hW0]
   have := BL.new' (w.alloc (.cells #[.int .i64 n, .slice A es.length c] 25)) #[.int .i64 kk, .int .i64 Q, .int .i64 N, va, vb, vf] 40
   rwa [World.size_alloc] at this
 have HXg := Hd hxg
 have HXc := Hd hxc
 have HG0 := Hd (hg.below hb0)
 have HB0 := Hd hb0
 have HW0 := Hd hW0
 clear hg hxg hxc hW0 hb0
 have HCo := Hd (pConn_any _ n es W0 HG0.out)
 obtain ⟨Aa, ca, rfl, -⟩ := ha.open_
 obtain ⟨Ab, cb, rfl, -⟩ := hb.open_
 obtain ⟨Af, cf, rfl, -⟩ := hf.open_
 generalize MaP n es kk Q N a b f P = PP at *
 generalize eGiven n es [] = E at *
 have g0 := HXg.out.cell 0
 have g1 := HXg.out.cell 1
 clear ha hb hf
 go_enter Tryz.func21, Tryz.ntmps21
 go_upto_region 1 with fail
 rw [<- HW0.out]
 go_wp2_with fail
 refine HCo.out.mono ?_
 rintro e w1 ⟨rfl, hb1⟩
 have HB1 := Hd (HB0.out.trans (hb1.mono HB0.out.size))
 have HXg1 := Hd (HXg.out.bel hb1)
 have HXc1 := Hd (HXc.out.bel hb1)
 clear hb1 g0 g1
 by_cases h0 : E ≠ 0
 · have t1 : (E != 0) = true := by simpa using h0
   have HP := Hd (HPu.out [] E (.inl ⟨h0, rfl, rfl⟩))
   clear h0 HMd HPu
   go_wp2
   go_ret2
   exact ⟨[], E, rfl, HP.out, HB1.out⟩
 have h00 : E = 0 := by omega
 subst h00
 have HM1 := Hd (HMd.out rfl w1 HB1.out)
 have HP : Hid (∀ t er, MdP n.toNat kk Q N a b f P t er -> PP t er) := fun t er h => HPu.out t er (.inr ⟨rfl, h⟩)
 have g0 := HXg1.out.cell 0
 have g1 := HXg1.out.cell 1
 have d0 := HXc1.out.cell 0
 have d1 := HXc1.out.cell 1
 have d2 := HXc1.out.cell 2
 have d3 := HXc1.out.cell 3
 have d4 := HXc1.out.cell 4
 have d5 := HXc1.out.cell 5
 clear h0 HMd HPu
 go_wp2_with fail
 refine HM1.out.mono ?_
 rintro e w2 ⟨t, er, rfl, hp, hb2⟩
 have HP2 := Hd (HP.out t er hp)
 have HB2 := Hd (HB1.out.trans (hb2.mono HB1.out.size))
 have HSt : Hid (strV t = .string ⟨t.toArray⟩) := rfl
 rw [HSt.out]
 clear hp hb2 HP
 go_wp2
 go_ret2
 exact ⟨t, er, rfl, HP2.out, HB2.out⟩
end Go.Proofs.YteamhbohgoclgaaGreatDoor
