/- Contract of graph.Ends.
   Contracts of packages stabilize and burning on right configurations: rooted, Check, check.
   A fire's wood in memory; contracts of burning's flames and catches. -/
import Derived.Test.YtjfggodnfoknfaaGreatDoorM13
set_option maxRecDepth 100000
set_option maxHeartbeats 16000000
namespace Go.Proofs.YtjfggodnfoknfaaGreatDoor
open Go.RowKit Go.Shelf
attribute [local go_sem] Oper.semAt_some

def flatP (ps : List (Int × Int)) : List Value := ps.flatMap fun p => [.int .i64 p.1, .int .i64 p.2]
theorem flatP_get : ∀ (ps : List (Int × Int)) (k : Nat) (p : Int × Int), ps[k]? = some p → (flatP ps)[k * 2]? = some (.int .i64 p.1) ∧ (flatP ps)[k * 2 + 1]? = some (.int .i64 p.2) := by
  intro ps
  induction ps with
  | nil => intro k p h; simp at h
  | cons q r ih =>
    intro k p h
    cases k with
    | zero => simp only [List.getElem?_cons_zero, Option.some.injEq] at h; subst h; simp [flatP]
    | succ k =>
      simp only [List.getElem?_cons_succ] at h
      obtain ⟨h1, h2⟩ := ih k p h
      have e : flatP (q :: r) = .int .i64 q.1 :: .int .i64 q.2 :: flatP r := by simp [flatP]
      rw [e, show (k + 1) * 2 = k * 2 + 1 + 1 by omega]
      simp only [List.getElem?_cons_succ]
      exact ⟨h1, h2⟩
/-- A slice of pairs that the call owns. -/
def OP (w : World) (B : Nat) (v : Value) (ps : List (Int × Int)) : Prop := w.ownsRow B 148 2 v ps.length (flatP ps) ∧ ps.length ≤ 1000000
theorem OP.below {w w' : World} {B : Nat} {v : Value} {ps : List (Int × Int)} (h : OP w B v ps) (hb : Below w.heap.size w w') : OP w' B v ps :=
  ⟨h.1.kept (row := none) ⟨hb.os, hb.tape, hb.output, hb.size, fun k hk _ => hb.block k hk⟩ (by cases v.ownBlock <;> simp), h.2⟩
theorem OP.nil_ (w : World) (B : Nat) : OP w B (.slice none 0 0) [] := ⟨World.ownsRow_nil w B _ 2, by simp⟩
theorem OP.shape {w : World} {B : Nat} {v : Value} {ps : List (Int × Int)} (h : OP w B v ps) : ∃ A c, v = .slice A ps.length c := by
  rcases h.1.2 with ⟨rfl, hn⟩ | ⟨g, cap, cur, rfl, _⟩
  · exact ⟨none, 0, by rw [hn]⟩
  · exact ⟨_, cap, rfl⟩
theorem OP.shape1 {w : World} {B : Nat} {v : Value} {ps : List (Int × Int)} (h : OP w B v ps) (hl : 1 ≤ ps.length) : ∃ g cap, v = .slice (some ⟨g, 0, none⟩) ps.length cap ∧ B ≤ g ∧ g < w.heap.size := by
  rcases h.1.2 with ⟨_, hn⟩ | ⟨g, cap, cur, rfl, hg, hh, _⟩
  · omega
  · exact ⟨g, cap, rfl, hg, lt_of_block hh⟩
theorem OP.block_ {w : World} {B : Nat} {v : Value} {ps : List (Int × Int)} (h : OP w B v ps) {g : Nat} (hg : v.ownBlock = some g) : ∃ cur, w.heap[g]? = some (.cells cur 148 (0, 0)) ∧ B ≤ g ∧ g < w.heap.size := by
  rcases h.1.2 with ⟨rfl, _⟩ | ⟨g', cap, cur, rfl, hB, hh, _⟩
  · simp [Value.ownBlock] at hg
  · simp only [Value.ownBlock, Option.some.injEq] at hg
    subst hg
    exact ⟨cur, hh, hB, lt_of_block hh⟩
theorem OP.keepG {w w' : World} {B : Nat} {v : Value} {ps : List (Int × Int)} (h : OP w B v ps) (hk : ∀ g, v.ownBlock = some g → w'.heap[g]? = w.heap[g]?) : OP w' B v ps := by
  refine ⟨⟨h.1.1, ?_⟩, h.2⟩
  rcases h.1.2 with h2 | ⟨g, cap, cur, hv, hg, hh, r'⟩
  · exact .inl h2
  · exact .inr ⟨g, cap, cur, hv, hg, (hk g (by rw [hv]; rfl)).trans hh, r'⟩
theorem OP.ne_bl {w : World} {B b : Nat} {v : Value} {ps : List (Int × Int)} {T : TypeId} {us : List Value} (h : OP w B v ps) (hb : BL w b T us) (hT : T ≠ 148) {g : Nat} (hg : v.ownBlock = some g) : g ≠ b := by
  rintro rfl
  obtain ⟨c, hc, _⟩ := h.block_ hg
  unfold BL at hb; rw [hb] at hc; simp only [Option.some.injEq, Obj.cells.injEq] at hc; exact hT hc.2.1
theorem OP.mono {w : World} {B B' : Nat} {v : Value} {ps : List (Int × Int)} (h : OP w B v ps) (hB : B' ≤ B) : OP w B' v ps := ⟨OV.mono_own h.1 hB, h.2⟩
theorem OP.shut {w w' : World} {B C : Nat} {v : Value} {ps : List (Int × Int)} (h : OP w C v ps) (hs : Shut B w w') : OP w' C v ps := by
  refine h.keepG fun g hg => ?_
  obtain ⟨c, hc, _⟩ := h.block_ hg
  rcases hs.block g with e | ⟨_, e⟩
  · exact e
  · rw [hc] at e; cases e
/-- An own list of pairs with one more behind it. -/
theorem run_append_pair {P : Program} (w : World) (t ty : TypeId) (i : TypeInfo) (z : Value) (bytes : Nat) (ht : P.underlying t = some (.slice 148)) (hi : P.info? 148 = some i) (hz : i.zero = some z)
    (hsize : i.size = 2) (hby : i.bytes = bytes) (hby2 : bytes ≤ 1000) (hzs : z.cells.size = 2) (B : Nat) (v : Value) (ps : List (Int × Int)) (hown : OP w B v ps) (a b : Int) (hb : ps.length ≤ 999999) (hB : B ≤ w.heap.size) :
    ∃ g cap w', (Builtin.append_ #[t, t] ty #[v, .slice (some ⟨w.heap.size, 0, none⟩) 1 1]).run P (w.alloc (.cells #[.int .i64 a, .int .i64 b] 148)) = .ok (.slice (some ⟨g, 0, none⟩) (ps.length + 1) cap) w' ∧
      OP w' B (.slice (some ⟨g, 0, none⟩) (ps.length + 1) cap) (ps ++ [(a, b)]) ∧ (w.alloc (.cells #[.int .i64 a, .int .i64 b] 148)).grownBy w' v.ownBlock ∧ (v.ownBlock = some g ∨ g = w.heap.size + 1) := by
  have hm : (ps.length + 1) * bytes ≤ 1000001 * 1000 := Nat.mul_le_mul (by omega) hby2
  obtain ⟨v', w', hrun, ho, hg, -, hat⟩ := run_append_own_at (P := P) (w.alloc (.cells #[.int .i64 a, .int .i64 b] 148)) B t ty 148 i z 2 bytes ht hi hz hsize hby hzs (by omega) v ps.length (flatP ps) (OP.below hown (below_alloc w _)).1
    ⟨w.heap.size, 0, none⟩ 1 1 [.int .i64 a, .int .i64 b] rfl (fun j u hu => by
      have h := (BL.new' w #[.int .i64 a, .int .i64 b] 148).cell j
      have e : (⟨w.heap.size, 0, none⟩ : Addr).add j = ⟨w.heap.size, j, none⟩ := by unfold Addr.add; split <;> simp_all
      rw [e, h]; exact hu) (fun u hu => by
      simp only [List.mem_cons, List.not_mem_nil, or_false] at hu
      rcases hu with rfl | rfl <;> rfl) (by unfold maxLen; omega) (by omega) (by simp; omega)
  have hown' : OP w' B v' (ps ++ [(a, b)]) := ⟨by simpa [flatP] using ho, by simp; omega⟩
  obtain ⟨g, cap, rfl, -, -⟩ := hown'.shape1 (by simp)
  simp only [List.length_append, List.length_singleton] at hrun hown'
  refine ⟨g, cap, w', hrun, hown', hg, ?_⟩
  rcases hat with h | h
  · exact .inl (by rw [← h]; rfl)
  · right
    simp only [Value.ownBlock, World.size_alloc, Option.some.injEq] at h
    exact h
theorem singles_any (g : Value) (n : Nat) (es : List Tri) (w : World) (hg : GV w g n es) : Calls Tryz.prog 169 #[g] w fun e w' =>
    e = .returned (.func (.func 190) #[] #[.pointer (some ⟨w.heap.size, 0, none⟩)]) ∧ ∃ ve, g = .agg #[.int .i64 (n : Int), ve] ∧ w.alloc (.cells #[.int .i64 (n : Int), ve] 24) = w' := by
  obtain ⟨A, c, rfl, -, -, -⟩ := hg.open_
  clear hg
  go_enter Tryz.func169, Tryz.ntmps169
  go_wp2
  go_ret
  exact ⟨rfl, _, rfl, rfl⟩
theorem pair_info : (Tryz.prog.info? 148).map (fun i => (i.zero, i.size, i.bytes)) = some (some (.agg #[.int .i64 0, .int .i64 0]), 2, 16) := by kernel_rfl
theorem info_parts' {P : Program} {e : TypeId} {z : Value} {a b : Nat} (h : (P.info? e).map (fun i => (i.zero, i.size, i.bytes)) = some (some z, a, b)) : ∃ i, P.info? e = some i ∧ i.zero = some z ∧ i.size = a ∧ i.bytes = b := by
  cases hq : P.info? e with
  | none => simp [hq] at h
  | some i =>
    simp only [hq, Option.map_some, Option.some.injEq, Prod.mk.injEq] at h
    exact ⟨i, rfl, h.1, h.2.1, h.2.2⟩
/-- What holds while the ends are collected. -/
def EnI (w0 : World) (B ob gb : Nat) (gu : List Value) (pre : List (Int × Int × Int)) (W : World) : Prop :=
  ∃ vo, BL W ob 100 [vo] ∧ OP W B vo (pre.map (·.2)) ∧ Below w0.heap.size w0 W ∧ BL W gb 24 gu
theorem EnI.below {w0 : World} {B ob gb : Nat} {gu : List Value} {pre : List (Int × Int × Int)} {A C : World} (h : EnI w0 B ob gb gu pre A) (hr : Below A.heap.size A C) : EnI w0 B ob gb gu pre C := by
  obtain ⟨vo, h1, h2, h3, h4⟩ := h
  exact ⟨vo, h1.bel hr, h2.below hr, h3.trans (hr.mono h3.size), h4.bel hr⟩
theorem EnI.putLoop {w0 : World} {B ob gb : Nat} {gu : List Value} {pre : List (Int × Int × Int)} {W : World} (h : EnI w0 B ob gb gu pre W) {l : Nat} {r : Loop} (hl : W.heap[l]? = some (.loop r)) (o : Obj) (hw : w0.heap.size ≤ l) : EnI w0 B ob gb gu pre (W.putObj l o) := by
  obtain ⟨vo, h1, h2, h3, h4⟩ := h
  refine ⟨vo, h1.putLoop hl o, h2.keepG fun g hg => World.putObj_heap_other ?_, below_putLoop h3 hw o, h4.putLoop hl o⟩
  rintro rfl
  obtain ⟨c, hc, _⟩ := h2.block_ hg
  rw [hl] at hc; cases hc
theorem Ends_any (g : Value) (n : Nat) (es : List Tri) (w : World) (hg : GV w g n es) (hE : Edges n es) (h0 : gcheckE n es = 0) (hlen : (singL es).length ≤ 900000) :
    Calls Tryz.prog 149 #[g] w fun e w' => ∃ v, e = .returned (.tuple #[v, .int .i64 0]) ∧ OP w' w.heap.size v (singL es) ∧ Below w.heap.size w w' := by
  obtain ⟨A, c, rfl, -, -, -⟩ := hg.open_
  obtain ⟨i1, hi1, hz01, hz11, hz21⟩ := info_parts' pair_info
  obtain ⟨W0, hW0⟩ : ∃ W0, W0 = w.alloc (.cells #[.int .i64 (n : Int), .slice A es.length c] 24) := ⟨_, rfl⟩
  have hb0 : Below w.heap.size w W0 := by rw [hW0]; exact below_alloc w _
  have hx0 : BL W0 w.heap.size 24 [.int .i64 (n : Int), .slice A es.length c] := by rw [hW0]; exact BL.new' w _ _
  have c0 := hx0.cell 0
  have c1 := hx0.cell 1
  have hz0 : W0.heap.size = w.heap.size + 1 := by rw [hW0]; simp
  have HZ0 := Lib.hid hz0
  have HG0 := Lib.hid (hg.below hb0)
  have hck := gCheck_any _ _ _ W0 HG0.out
  rw [h0] at hck
  have HCk := Lib.hid hck
  have HX0 := Lib.hid hx0
  have HB0 := Lib.hid hb0
  have HW0 := Lib.hid hW0
  have HE := Lib.hid hE
  have HLen := Lib.hid hlen
  rw [hW0] at c0 c1
  clear hg hck hx0 hb0 hW0 hE hlen h0 hz0
  refine (callsIn_wide (n := 3)).1 ?_
  refine callsIn_of_wp_marks Tryz.func149 rfl trivial ?_ rfl
  refine wpIn_wide.2 ?_
  simp only [Tryz.ntmps149, List.size_toArray, List.length_cons, List.length_nil, Nat.reduceAdd, Nat.reduceSub, Array.replicate_succ, Array.replicate_zero, List.push_toArray, List.append_toArray, List.nil_append, List.cons_append]
  go_wp2_with fail
  rw [← HW0.out]
  refine HCk.out.mono ?_
  rintro e w1 ⟨rfl, hb1⟩
  obtain ⟨W2, hW2⟩ : ∃ W2, W2 = w1.alloc (.cells #[.slice none 0 0] 100) := ⟨_, rfl⟩
  have hb2 : Below w1.heap.size w1 W2 := by rw [hW2]; exact below_alloc w1 _
  have ho2 : BL W2 w1.heap.size 100 [.slice none 0 0] := by rw [hW2]; exact BL.new' w1 _ _
  have hx2 := (HX0.out.bel hb1).bel hb2
  have d0 := hx2.cell 0
  have d1 := hx2.cell 1
  have HG2 := Lib.hid ((HG0.out.below hb1).below hb2)
  have HSi := Lib.hid (singles_any _ n es W2 HG2.out)
  have hs1 := hb1.size
  have hz0 := HZ0.out
  obtain ⟨eb, heb, hebl⟩ : ∃ eb, EB W0 (.slice A es.length c) es eb ∧ eb < W0.heap.size := by
    obtain ⟨ev', hev', hEV'⟩ := HG0.out
    simp only [Value.agg.injEq] at hev'
    obtain rfl : ev' = .slice A es.length c := by simpa using hev'.symm
    obtain ⟨eb, h1, h2⟩ := hEV'.toB (by omega)
    exact ⟨eb, h1, h2⟩
  have HEB := Lib.hid ((heb.below hb1).below hb2)
  have HB2 := Lib.hid ((HB0.out.trans (hb1.mono HB0.out.size)).trans (hb2.mono (HB0.out.trans (hb1.mono HB0.out.size)).size))
  have HO2 := Lib.hid ho2
  have hz2 : W2.heap.size = w1.heap.size + 1 := by rw [hW2]; simp
  have HZ2 := Lib.hid hz2
  have HS1 := Lib.hid hs1
  have HW2 := Lib.hid hW2
  rw [hW2] at d0 d1
  clear hb1 hb2 ho2 hx2 hW2 heb hz2 c0 c1 hs1 hz0
  go_wp2_with fail
  rw [← HW2.out]
  refine HSi.out.mono ?_
  rintro e w3 ⟨rfl, ve, hve, rfl⟩
  obtain rfl : Value.slice A es.length c = ve := by simpa using hve
  clear hve d0 d1
  obtain ⟨W3, hW3⟩ : ∃ W3, W3 = W2.alloc (.cells #[.int .i64 (n : Int), .slice A es.length c] 24) := ⟨_, rfl⟩
  have hb3 : Below W2.heap.size W2 W3 := by rw [hW3]; exact below_alloc W2 _
  have hG3 : BL W3 W2.heap.size 24 [.int .i64 (n : Int), .slice A es.length c] := by rw [hW3]; exact BL.new' W2 _ _
  have HZ3 : Hid (W3.heap.size = W2.heap.size + 1) := by show _ = _; rw [hW3]; simp
  have HG3 := Lib.hid hG3
  have HEB3 := Lib.hid (HEB.out.below hb3)
  have HO3 := Lib.hid (HO2.out.bel hb3)
  have HB3 := Lib.hid (HB2.out.trans (hb3.mono HB2.out.size))
  have HW3 := Lib.hid hW3
  have HEl := Lib.hid hebl
  clear hb3 hG3 hW3 hebl
  go_wp2
  rw [← HW3.out]
  have HI3 : Hid (EnI w (w.heap.size + 1) w1.heap.size W2.heap.size [.int .i64 (n : Int), .slice A es.length c] [] W3) := ⟨_, HO3.out, OP.nil_ _ _, HB3.out, HG3.out⟩
  refine (wpIn_wide (n := 3)).1 ?_
  refine wpIn_rangeFunc_iterA (gf := 190) (lb := #[.pointer (some ⟨W2.heap.size, 0, none⟩)]) rfl (enters_of Tryz.func190 (by kernel_rfl) rfl)
    (singles1_iter W2.heap.size eb n (.slice A es.length c) es HE.out) (fun _ => rfl) ?hR (SgK.trans_ (Bs := [W2.heap.size, eb])) ?hKp (EnI w (w.heap.size + 1) w1.heap.size W2.heap.size [.int .i64 (n : Int), .slice A es.length c]) (fun _ _ _ => False) ?hI (fun _ _ _ _ _ h _ => h) ?hIR (fun _ _ _ _ h _ => h) ?hpre ?h0
    ?hassign ?hdone ?hstop
  case hR => intro A' C h hs; exact ⟨h.block _ (by omega), h.block _ (by omega)⟩
  case hKp =>
    intro W r o hl
    exact ⟨LkK_put W _ (by have := HEl.out; have := HZ0.out; have := HZ2.out; have := HZ3.out; have := HS1.out; simp; omega), fun k us hb => hb.putLoop hl o⟩
  case hI => intro pre W r o h hl; exact h.putLoop hl o (by have := HB3.out.size; omega)
  case hIR => intro pre A' C h hr; exact h.below hr
  case hpre =>
    intro r
    have hb := (below_alloc W3 (.deferred (some []))).alloc (by simp) (.loop r)
    exact ⟨HG3.out.bel hb, HEB3.out.below hb⟩
  case h0 =>
    intro r
    exact HI3.out.below ((below_alloc W3 (.deferred (some []))).alloc (by simp) (.loop r))
  case hstop => rintro c pre W _ h _; exact h.elim
  case hassign =>
    rintro l pre x W r hi ⟨rest, hrest⟩ hl hd
    have hlb := lt_of_block hl
    have hdb := lt_of_block hd
    have hpl : pre.length < 900000 := by
      have h := congrArg List.length hrest
      have := HLen.out
      simp at h; omega
    obtain ⟨W4, hW4⟩ : ∃ W4, W4 = W.alloc (.cells #[.int .i64 x.2.1, .int .i64 x.2.2] 191) := ⟨_, rfl⟩
    have hb4 : Below W.heap.size W W4 := by rw [hW4]; exact below_alloc W _
    have hx4 : BL W4 W.heap.size 191 [.int .i64 x.2.1, .int .i64 x.2.2] := by rw [hW4]; exact BL.new' W _ _
    have HI4 := Lib.hid (hi.below hb4)
    have HL4 := Lib.hid ((hb4.block _ hlb).trans hl)
    have HD4 := Lib.hid ((hb4.block _ hdb).trans hd)
    have HX4 := Lib.hid hx4
    have HB4 := Lib.hid hb4
    have HW4 := Lib.hid hW4
    have HLb := Lib.hid hlb
    have HDb := Lib.hid hdb
    have HPl := Lib.hid hpl
    clear hi hrest hl hd hlb hdb hb4 hx4 hW4 hpl
    gi_wp2
    rw [← HW4.out]
    have hz0 := HZ0.out
    have hz2 := HZ2.out
    have hz3 := HZ3.out
    have hs1 := HS1.out
    have hel := HEl.out
    refine ⟨⟨HB4.out.block _ HDb.out, HB4.out.block _ HLb.out⟩, ⟨⟨HB4.out.size, fun k hk => HB4.out.block k ?_⟩, fun k us hb => hb.bel HB4.out⟩, fun r' => ?_⟩
    · have := HDb.out
      simp only [List.mem_cons, List.not_mem_nil, or_false] at hk
      omega
    obtain ⟨W5, hW5⟩ : ∃ W5, W5 = W4.putObj (W3.heap.size + 1) (.loop r') := ⟨_, rfl⟩
    have hi5 : EnI w (w.heap.size + 1) w1.heap.size W2.heap.size [.int .i64 (n : Int), .slice A es.length c] pre W5 := by rw [hW5]; exact HI4.out.putLoop HL4.out _ (by have := HB3.out.size; omega)
    have hx5 : BL W5 W.heap.size 191 [.int .i64 x.2.1, .int .i64 x.2.2] := by rw [hW5]; exact HX4.out.putLoop HL4.out _
    have hd5 : W5.heap[W3.heap.size]? = some (.deferred (some [])) := by rw [hW5]; exact (World.putObj_heap_other (by omega)).trans HD4.out
    have hl5 : W5.heap[W3.heap.size + 1]? = some (.loop r') := by rw [hW5]; exact World.putObj_heap_same (lt_of_block HL4.out)
    rw [← hW5]
    obtain ⟨vo, k1, k2, k3, k4⟩ := hi5
    obtain ⟨A2, c2, rfl⟩ := k2.shape
    obtain ⟨g2, cap2, w', hrun, hown, hgr, hat⟩ := run_append_pair (P := Tryz.prog) W5 100 100 i1 _ 16 Tryz.underlying100 hi1 hz01 hz11 hz21 (by omega) rfl (w.heap.size + 1) _ _ k2 x.2.1 x.2.2 (by have := HPl.out; simp; omega) (by have := k1.lt; have := HB0.out.size; omega)
    have hkt : ∀ b T us, BL W5 b T us → T ≠ 148 → (Value.slice A2 (pre.map (·.2)).length c2).ownBlock ≠ some b := fun b T us hb hT hg => k2.ne_bl hb hT hg rfl
    have hgd : (Value.slice A2 (pre.map (·.2)).length c2).ownBlock ≠ some W3.heap.size := fun hg => by
      obtain ⟨c, hc, _⟩ := k2.block_ hg
      rw [hd5] at hc; cases hc
    have hgl : (Value.slice A2 (pre.map (·.2)).length c2).ownBlock ≠ some (W3.heap.size + 1) := fun hg => by
      obtain ⟨c, hc, _⟩ := k2.block_ hg
      rw [hl5] at hc; cases hc
    have hge : (Value.slice A2 (pre.map (·.2)).length c2).ownBlock ≠ some eb := fun hg => by
      obtain ⟨c, _, h, _⟩ := k2.block_ hg
      omega
    have hk1 : BL w' w1.heap.size 100 [.slice A2 (pre.map (·.2)).length c2] := BL.grown (k1.alloc _) hgr (hkt _ _ _ k1 (by decide))
    have ho2 : w1.heap.size ≠ g2 := by
      rcases hat with h | h
      · rintro rfl; exact hkt _ _ _ k1 (by decide) h
      · have := k1.lt; omega
    obtain ⟨ln, hln⟩ : ∃ ln, ln = (pre.map (·.2)).length := ⟨_, rfl⟩
    rw [← hln] at k1 k2 hrun hown hk1 hgr hat hkt hgd hgl hge
    obtain ⟨nv, hnv⟩ : ∃ nv, nv = Value.slice (some ⟨g2, 0, none⟩) (ln + 1) cap2 := ⟨_, rfl⟩
    have c4 := k1.cell 0
    have c5 := hk1.cell 0
    have f5 := hk1.frozen 0
    have p0 := hx5.cell 0
    have p1 := hx5.cell 1
    have hfin : ∀ j, j < W5.heap.size → (Value.slice A2 ln c2).ownBlock ≠ some j → j ≠ w1.heap.size → (w'.setCell ⟨w1.heap.size, 0, none⟩ (.slice (some ⟨g2, 0, none⟩) (ln + 1) cap2)).heap[j]? = W5.heap[j]? := fun j hj h1 h2 =>
      (heap_setCell_other w' _ j _ h2).trans ((hgr.block j (by rw [World.size_alloc]; omega) (fun e => h1 e.symm)).trans (Below.heap_alloc W5 _ j hj))
    have hszf : W5.heap.size ≤ (w'.setCell ⟨w1.heap.size, 0, none⟩ (.slice (some ⟨g2, 0, none⟩) (ln + 1) cap2)).heap.size := by have := hgr.size; simp at this ⊢; omega
    have hs5 : W3.heap.size + 1 < W5.heap.size := lt_of_block hl5
    have HFin : Hid (KeepLD W3.heap.size W5 (w'.setCell ⟨w1.heap.size, 0, none⟩ (.slice (some ⟨g2, 0, none⟩) (ln + 1) cap2)) ∧ SgK [W2.heap.size, eb] W5 (w'.setCell ⟨w1.heap.size, 0, none⟩ (.slice (some ⟨g2, 0, none⟩) (ln + 1) cap2)) ∧
        EnI w (w.heap.size + 1) w1.heap.size W2.heap.size [.int .i64 (n : Int), .slice A es.length c] (pre ++ [x]) (w'.setCell ⟨w1.heap.size, 0, none⟩ (.slice (some ⟨g2, 0, none⟩) (ln + 1) cap2))) := by
      refine ⟨⟨hfin _ (by omega) hgd (by omega), hfin _ (by omega) hgl (by omega)⟩, ⟨⟨hszf, fun k hk => ?_⟩, fun k us hb => (hfin k hb.lt (hkt _ _ _ hb (by decide)) ?_).trans hb⟩, ⟨_, hk1.set 0 _, ?_, ?_, (hfin _ k4.lt (hkt _ _ _ k4 (by decide)) (by have := HZ2.out; omega)).trans k4⟩⟩
      · simp only [List.mem_cons, List.not_mem_nil, or_false] at hk
        rcases hk with rfl | rfl
        · exact hfin _ (by omega) (hkt _ _ _ k4 (by decide)) (by omega)
        · exact hfin _ (by omega) hge (by omega)
      · rintro rfl
        unfold BL at hb k1; rw [k1] at hb; simp only [Option.some.injEq, Obj.cells.injEq] at hb; exact absurd hb.2.1 (by decide)
      · refine OP.keepG (v := .slice (some ⟨g2, 0, none⟩) (ln + 1) cap2) (by simpa using hown) fun g hg => ?_
        simp only [Value.ownBlock, Option.some.injEq] at hg
        exact heap_setCell_other w' _ _ _ (by simp; omega)
      · have hw1 := HB0.out.size
        refine Below.setCell ?_ (p := ⟨w1.heap.size, 0, none⟩) (by simp; omega) _
        exact (k3.alloc k3.size _).grown hgr (by simp; have := k3.size; omega) (fun k hk => by have := (k2.block_ hk).choose_spec; omega)
    clear hfin hk1 k1 k2 k3 k4 hl5 hd5 hown hgr hat hkt hgd hgl hge hx5 hnv hW5 hz0 hz2 hz3 hs1 hel hszf hs5 hln
    repeat (first | (refine wpListIn_append rfl _ _ _ rfl _ _ (by simp [Act.eval, Act.put]; done) (by simp [Act.eval, Act.put]; done) _ _ hrun ?_) | gi_step)
    gi_wp2
    exact HFin.out
  case hdone =>
    rintro xs W hxs ⟨vo, k1, k2, k3, k4⟩ hD
    rw [hxs] at k2
    obtain ⟨A2, c2, rfl⟩ := k2.shape
    have e0 := k1.cell 0
    have HO := Lib.hid k2
    have HB := Lib.hid k3
    have HD := Lib.hid hD
    clear k1 k2 k3 k4 hD hxs
    go_wp2
    refine leaves_marks (B := w.heap.size) [_] _ ⟨⟨_, rfl, ?_, HD.out, by simp⟩, trivial⟩ fun w' hs' => ⟨_, results_tmp2 rfl _ _ _, _, rfl, (OP.mono HO.out (by omega)).shut hs', Below.shut HB.out hs'⟩
    exact HB3.out.size
end Go.Proofs.YtjfggodnfoknfaaGreatDoor

namespace Go.Proofs.YtjfggodnfoknfaaGreatDoor
open Go.RowKit Go.Shelf

theorem rooted_ok (g : Value) (n q : Nat) (es : List Tri) (w : World) (hg : GV w g n es) (hr : Rt n es) (hq : q < n) :
    Calls Tryz.prog 113 #[g, .int .i64 (q : Int)] w fun e w' => e = .returned (.int .i64 0) ∧ Below w.heap.size w w' := by
  obtain ⟨A, c, rfl, -, -, -⟩ := hg.open_
  have HB0 := Lib.hid (below_alloc w (.cells #[.int .i64 (n : Int), .slice A es.length c] 24))
  have HBL := Lib.hid (BL.new' w #[.int .i64 (n : Int), .slice A es.length c] 24)
  have hC := Connected_any _ n es _ (hg.below HB0.out)
  have hcl : connL n es = true := by unfold connL; rw [hr.gc, hr.cb]; rfl
  rw [hcl, hr.gc] at hC
  have HC := Lib.hid hC
  have h6 := hr.n6
  clear hC hcl hg hr
  go_enter Tryz.func113, Tryz.ntmps113
  go_wp2_with fail
  refine HC.out.mono ?_
  rintro e w1 ⟨rfl, hb⟩
  have c0 : w1.cell? ⟨w.heap.size, 0, none⟩ = some (.int .i64 (n : Int)) := (HBL.out.bel hb).cell 0
  have HB := Lib.hid (HB0.out.trans (hb.mono (by simp)))
  clear hb
  go_wp2
  go_ret
  exact ⟨rfl, HB.out⟩
/-- A right configuration. -/
structure Cf (n q : Nat) (cs : List Int) : Prop where
  len : cs.length = n
  lo : ∀ v, v < n → 0 ≤ cs.getD v 0
  hi : ∀ v, v < n → cs.getD v 0 ≤ 1048576
  own : cs.getD q 0 = 0
theorem Cf.check {n q : Nat} {cs : List Int} (h : Cf n q cs) (h1 : 1 ≤ n) (h6 : n ≤ 6) : checkE cs n = 0 := checkE_fine h1 (by omega) h.len fun v hv => ⟨by have := h.lo v hv; omega, h.hi v hv⟩
theorem sCheck_ok (g d : Value) (n q : Nat) (es : List Tri) (cs : List Int) (w : World) (hg : GV w g n es) (hr : Rt n es) (hq : q < n) (hd : RI w d cs) (hc : Cf n q cs) :
    Calls Tryz.prog 191 #[g, .int .i64 (q : Int), d] w fun e w' => e = .returned (.int .i64 0) ∧ Below w.heap.size w w' := by
  obtain ⟨A, c, rfl, -, -, -⟩ := hg.open_
  obtain ⟨A2, c2, rfl, -, hlb, -⟩ := hd.open_
  have HB0 := Lib.hid (below_alloc w (.cells #[.int .i64 (n : Int), .slice A es.length c] 24))
  have HBL := Lib.hid (BL.new' w #[.int .i64 (n : Int), .slice A es.length c] 24)
  have HRo := Lib.hid (rooted_ok _ n q es _ (hg.below HB0.out) hr hq)
  have HD := Lib.hid (hd.below HB0.out)
  have HCf := Lib.hid hc
  have HLen := Lib.hid hc.len
  have HRt := Lib.hid hr
  clear hg hr hd hc
  go_enter Tryz.func191, Tryz.ntmps191
  go_wp2_with fail
  refine HRo.out.mono ?_
  rintro e w1 ⟨rfl, hb⟩
  have c0 : w1.cell? ⟨w.heap.size, 0, none⟩ = some (.int .i64 (n : Int)) := (HBL.out.bel hb).cell 0
  have HB := Lib.hid (HB0.out.trans (hb.mono (by simp)))
  have HD1 := Lib.hid (HD.out.below hb)
  have hCk := check_any _ cs n w1 HD1.out
  rw [HCf.out.check HRt.out.n1 HRt.out.n6] at hCk
  have HCk := Lib.hid hCk
  clear hb hCk
  go_wp2_with fail
  refine HCk.out.mono ?_
  rintro e w2 ⟨rfl, rfl⟩
  go_wp2
  go_loop [26] (fun i => ∃ k : Nat, k ≤ cs.length ∧ i = .int .i64 (k : Int)) (fun i => cs.length - (intOf i).toNat)
  case atStart => exact ⟨0, Nat.zero_le _, rfl⟩
  case round =>
    obtain ⟨k, hk, rfl⟩ := hrel
    obtain ⟨A3, c3, he3, -, -, hcell⟩ := HD1.out.open_
    simp only [Value.slice.injEq, true_and] at he3
    obtain ⟨rfl, rfl⟩ := he3
    by_cases hlt : k < cs.length
    · obtain ⟨ad, z, rfl, hbl, hz, hcl⟩ := hcell k hlt
      have hz0 : 0 ≤ z := by
        have := HCf.out.lo k (by have := HLen.out; omega)
        rwa [List.getD_eq_getElem?_getD, hz.out] at this
      clear hcell hz
      by_cases hkq : k = q
      · subst hkq
        have t1 : ((k : Int) != k) = false := by simp
        go_wp2
        go_round
        case rel => exact ⟨k + 1, by omega, by go_num⟩
        case measure => simp [intOf]; omega
      · have t1 : ((k : Int) != q) = true := by simp; omega
        go_wp2
        go_round
        case rel => exact ⟨k + 1, by omega, by go_num⟩
        case measure => simp [intOf]; omega
    · go_wp2
      go_ret
      exact ⟨rfl, HB.out⟩
theorem bCheck_ok (g d : Value) (n q : Nat) (es : List Tri) (cs : List Int) (w : World) (hg : GV w g n es) (hr : Rt n es) (hq : q < n) (hd : RI w d cs) (hc : Cf n q cs) :
    Calls Tryz.prog 171 #[g, .int .i64 (q : Int), d] w fun e w' => e = .returned (.int .i64 0) ∧ Below w.heap.size w w' := by
  obtain ⟨A, c, rfl, -, -, -⟩ := hg.open_
  obtain ⟨A2, c2, rfl, -, hlb, -⟩ := hd.open_
  have HB0 := Lib.hid (below_alloc w (.cells #[.int .i64 (n : Int), .slice A es.length c] 24))
  have HS := Lib.hid (sCheck_ok _ _ n q es cs _ (hg.below HB0.out) hr hq (hd.below HB0.out) hc)
  have HD := Lib.hid (hd.below HB0.out)
  have HCf := Lib.hid hc
  have hql : q < cs.length := by have := hc.len; omega
  clear hg hr hd hc
  go_enter Tryz.func171, Tryz.ntmps171
  go_wp2_with fail
  refine HS.out.mono ?_
  rintro e w1 ⟨rfl, hb⟩
  have HB := Lib.hid (HB0.out.trans (hb.mono (by simp)))
  obtain ⟨A3, c3, he3, -, -, hcell⟩ := (HD.out.below hb).open_
  simp only [Value.slice.injEq, true_and] at he3
  obtain ⟨rfl, rfl⟩ := he3
  obtain ⟨ad, z, rfl, hbl, hz, hcl⟩ := hcell q hql
  obtain rfl : z = 0 := by
    have := HCf.out.own
    rwa [List.getD_eq_getElem?_getD, hz.out] at this
  clear hb hcell hz
  go_wp2
  go_ret
  exact ⟨rfl, HB.out⟩
end Go.Proofs.YtjfggodnfoknfaaGreatDoor

namespace Go.Proofs.YtjfggodnfoknfaaGreatDoor
open Go.RowKit Go.Shelf

def WU (n : Int) (tl : List Int) (ch : Value) (bl : List Bool) : List Value := .int .i64 n :: ((tl.map fun z => Value.int .i64 z) ++ (ch :: bl.map Value.bool))
/-- The wood at block b. -/
def WD (w : World) (b : Nat) (n : Int) (tl : List Int) (ch : Value) (bl : List Bool) : Prop := BL w b 253 (WU n tl ch bl) ∧ tl.length = 144 ∧ bl.length = 12
theorem WD.n {w : World} {b : Nat} {n : Int} {tl : List Int} {ch : Value} {bl : List Bool} (h : WD w b n tl ch bl) : w.cell? ⟨b, 0, none⟩ = some (.int .i64 n) := h.1.cell 0
theorem WD.time {w : World} {b : Nat} {n : Int} {tl : List Int} {ch : Value} {bl : List Bool} (h : WD w b n tl ch bl) {i : Nat} (hi : i < 144) : w.cell? ⟨b, 1 + i, none⟩ = some (.int .i64 (tl.getD i 0)) := by
  rw [h.1.cell (1 + i), Nat.add_comm 1 i]
  unfold WU
  rw [List.getElem?_cons_succ, List.getElem?_append_left (by simp [h.2.1]; exact hi), List.getElem?_map, List.getD_eq_getElem?_getD, List.getElem?_eq_getElem (by rw [h.2.1]; exact hi)]
  rfl
theorem WD.chips {w : World} {b : Nat} {n : Int} {tl : List Int} {ch : Value} {bl : List Bool} (h : WD w b n tl ch bl) : w.cell? ⟨b, 145, none⟩ = some ch := by
  rw [h.1.cell 145]
  unfold WU
  rw [List.getElem?_cons_succ, List.getElem?_append_right (by simp [h.2.1])]
  simp [h.2.1]
theorem WD.burnt {w : World} {b : Nat} {n : Int} {tl : List Int} {ch : Value} {bl : List Bool} (h : WD w b n tl ch bl) {j : Nat} (hj : j < 12) : w.cell? ⟨b, 146 + j, none⟩ = some (.bool (fnB bl j)) := by
  rw [h.1.cell (146 + j)]
  unfold WU fnB
  rw [show 146 + j = (145 + j) + 1 by omega, List.getElem?_cons_succ, List.getElem?_append_right (by simp [h.2.1]; omega)]
  simp only [List.length_map, h.2.1]
  rw [show 145 + j - 144 = j + 1 by omega, List.getElem?_cons_succ, List.getElem?_map, List.getD_eq_getElem?_getD, List.getElem?_eq_getElem (by rw [h.2.2]; exact hj)]
  rfl
theorem WD.setT {w : World} {b : Nat} {n : Int} {tl : List Int} {ch : Value} {bl : List Bool} (h : WD w b n tl ch bl) {i : Nat} (hi : i < 144) (x : Int) : WD (w.setCell ⟨b, 1 + i, none⟩ (.int .i64 x)) b n (tl.set i x) ch bl := by
  refine ⟨?_, by simpa using h.2.1, h.2.2⟩
  have := h.1.set (1 + i) (.int .i64 x)
  rw [show (WU n tl ch bl).set (1 + i) (.int .i64 x) = WU n (tl.set i x) ch bl by
    unfold WU
    rw [Nat.add_comm, List.set_cons_succ, List.set_append_left _ _ (by simp [h.2.1]; exact hi), List.map_set]] at this
  exact this
theorem WD.setB {w : World} {b : Nat} {n : Int} {tl : List Int} {ch : Value} {bl : List Bool} (h : WD w b n tl ch bl) {j : Nat} (hj : j < 12) (x : Bool) : WD (w.setCell ⟨b, 146 + j, none⟩ (.bool x)) b n tl ch (bl.set j x) := by
  refine ⟨?_, h.2.1, by simpa using h.2.2⟩
  have := h.1.set (146 + j) (.bool x)
  rw [show (WU n tl ch bl).set (146 + j) (.bool x) = WU n tl ch (bl.set j x) by
    unfold WU
    rw [show 146 + j = (145 + j) + 1 by omega, List.set_cons_succ, List.set_append_right _ _ (by simp [h.2.1]; omega)]
    simp only [List.length_map, h.2.1]
    rw [show 145 + j - 144 = j + 1 by omega, List.set_cons_succ, List.map_set]] at this
  exact this
theorem WD.bel {w w' : World} {b : Nat} {n : Int} {tl : List Int} {ch : Value} {bl : List Bool} (h : WD w b n tl ch bl) (hb : Below w.heap.size w w') : WD w' b n tl ch bl := ⟨h.1.bel hb, h.2⟩
theorem WD.keep {w w' : World} {b : Nat} {n : Int} {tl : List Int} {ch : Value} {bl : List Bool} (h : WD w b n tl ch bl) (hk : w'.heap[b]? = w.heap[b]?) : WD w' b n tl ch bl := ⟨hk.trans h.1, h.2⟩
theorem WD.drewN {w : World} {b : Nat} {n : Int} {tl : List Int} {ch : Value} {bl : List Bool} (h : WD w b n tl ch bl) (k : Nat) : WD (w.drewN k) b n tl ch bl := h
/-- How often vertices are joined, as a table of 12 rows. -/
def TT (n : Nat) (es : List Tri) (tl : List Int) : Prop := ∀ a b, a < n → b < n → tl.getD (a * 12 + b) 0 = wgt es a b
theorem sumN_le_of {k n : Nat} {f : Nat → Int} (h : ∀ i, i < n → 0 ≤ f i) (hk : k ≤ n) : sumN k f ≤ sumN n f := by
  induction n with
  | zero => have : k = 0 := by omega
            subst this; exact Int.le_refl _
  | succ n ih =>
    by_cases e : k = n + 1
    · subst e; exact Int.le_refl _
    · have := ih (fun i hi => h i (by omega)) (by omega)
      have := h n (by omega)
      simp only [sumN]; omega
/-- How many single edges of v burn from the vertices below k. -/
def flameN (es : List Tri) (bl : List Bool) (v k : Nat) : Int := sumN k fun u => if fnB bl u = true then wgt es v u else 0
theorem flameN_bd {n k v : Nat} {es : List Tri} {bl : List Bool} (hr : Rt n es) (hk : k ≤ n) : 0 ≤ flameN es bl v k ∧ flameN es bl v k ≤ 9 := by
  have hw := wgt_nonneg hr.ed.pos
  have h0 : ∀ i, 0 ≤ (if fnB bl i = true then wgt es v i else 0) := fun i => by split; exact hw v i; exact Int.le_refl _
  have h1 : flameN es bl v k ≤ flameN es bl v n := sumN_le_of (fun i _ => h0 i) hk
  have h2 : flameN es bl v n = joinE es (fnB bl) v := join_edges hr.ed.ends (fnB bl) v
  have h3 := joinE_le hr.ed.pos (fnB bl) v
  have := hr.m9
  refine ⟨sumN_nonneg fun i _ => h0 i, by omega⟩
theorem flames_any (b n v : Nat) (es : List Tri) (tl : List Int) (ch : Value) (bl : List Bool) (w : World) (hr : Rt n es) (hw : WD w b n tl ch bl) (hT : TT n es tl) (hv : v < n) :
    Calls Tryz.prog 214 #[.pointer (some ⟨b, 0, none⟩), .int .i64 (v : Int)] w fun e w' => e = .returned (.int .i64 (flameN es bl v n)) ∧ w = w' := by
  have h6 := hr.n6
  have HR := Lib.hid hr
  have HW := Lib.hid hw
  have HT := Lib.hid hT
  have c0 := hw.n
  clear hr hw hT
  go_enter Tryz.func214, Tryz.ntmps214
  go_wp2
  go_loop [5, 11] (fun s i => ∃ k : Nat, k ≤ n ∧ i = .int .i64 (k : Int) ∧ s = .int .i64 (flameN es bl v k)) (fun _ i => n - (intOf i).toNat)
  case atStart => exact ⟨0, Nat.zero_le _, rfl, rfl⟩
  case round =>
    obtain ⟨k, hk, rfl, rfl⟩ := hrel
    by_cases hlt : k < n
    · have cb := HW.out.burnt (j := k) (by omega)
      have ct := HW.out.time (i := v * 12 + k) (by omega)
      rw [HT.out v k hv hlt] at ct
      obtain ⟨s0, s1⟩ := flameN_bd (bl := bl) (v := v) HR.out hk
      obtain ⟨r0, r1⟩ := flameN_bd (bl := bl) (v := v) (k := k + 1) HR.out (by omega)
      have HS : Hid (flameN es bl v (k + 1) = flameN es bl v k + if fnB bl k = true then wgt es v k else 0) := rfl
      rw [HS.out] at r0 r1
      rw [← Nat.add_assoc] at ct
      generalize wgt es v k = x at *
      generalize flameN es bl v k = y at *
      have hwr : IntKind.i64.wrap (y + x) = y + x ∨ fnB bl k = false := by
        by_cases c : fnB bl k = true
        · rw [if_pos c] at r0 r1; exact .inl (IntWalk.i64_in _ (by omega))
        · exact .inr (by simpa using c)
      cases hb : fnB bl k
      · rw [hb] at cb HS
        have HS' : Hid (flameN es bl v (k + 1) = y) := by show _ = _; rw [HS.out, if_neg (by simp)]; omega
        clear hb hwr r0 r1 HS
        go_wp2
        go_round
        case rel => exact ⟨k + 1, by omega, by go_num, by rw [HS'.out]⟩
        case measure => simp [intOf]; omega
      · rw [hb] at cb HS hwr r0 r1
        rw [if_pos rfl] at r0 r1
        have hw : IntKind.i64.wrap (y + x) = y + x := hwr.resolve_right (by simp)
        have HS' : Hid (flameN es bl v (k + 1) = y + x) := by show _ = _; rw [HS.out, if_pos rfl]
        clear hb hwr HS
        go_wp2
        go_round
        case rel => exact ⟨k + 1, by omega, by go_num, by rw [HS'.out]⟩
        case measure => simp [intOf]; omega
    · obtain rfl : k = n := by omega
      go_wp2
      go_ret
      exact ⟨rfl, rfl⟩
/-- v catches fire. -/
def catchB (n : Nat) (es : List Tri) (cs : List Int) (bl : List Bool) (v : Nat) : Bool := !fnB bl v && decide (cs.getD v 0 < flameN es bl v n)
theorem catches_any (b n v : Nat) (es : List Tri) (tl : List Int) (ch : Value) (cs : List Int) (bl : List Bool) (w : World) (hr : Rt n es) (hw : WD w b n tl ch bl) (hT : TT n es tl) (hv : v < n) (hc : RI w ch cs) (hcl : cs.length = n) :
    Calls Tryz.prog 193 #[.pointer (some ⟨b, 0, none⟩), .int .i64 (v : Int)] w (Quiet w (.bool (catchB n es cs bl v))) := by
  obtain ⟨A, c, rfl, -, -, hcell⟩ := hc.open_
  obtain ⟨ad, z, rfl, hadl, hz, hcc⟩ := hcell v (by omega)
  have h6 := hr.n6
  have c1 := hw.burnt (j := v) (by omega)
  have c2 := hw.chips
  have HF := fun m => flames_any b n v es tl _ bl (w.drewN m) hr (hw.drewN m) hT hv
  have hzv : cs.getD v 0 = z := by rw [List.getD_eq_getElem?_getD, hz.out]; rfl
  have HFm : ∀ m, Calls Tryz.prog 214 #[.pointer (some ⟨b, 0, none⟩), .int .i64 (v : Int)] (w.drewN m) fun e w' => e = .returned (.int .i64 (flameN es bl v n)) ∧ ∃ k, w' = w.drewN k := fun m => (HF m).mono fun _ _ ⟨he, hm⟩ => ⟨he, m, hm.symm⟩
  have HB : Hid (catchB n es cs bl v = (!fnB bl v && decide (z < flameN es bl v n))) := by show _ = _; unfold catchB; rw [hzv]
  generalize flameN es bl v n = fl at *
  clear hr hw hT hc hcell hz HF hzv
  rw [HB.out]
  clear HB
  cases hb : fnB bl v
  · rw [hb] at c1
    clear hb
    go_enter Tryz.func193, Tryz.ntmps193
    go_wp2_with fail
    go_quiet (first | (go_at_call 214; exact HFm _))
    go_wp2
    go_ret
    exact ⟨ret_b (by simp), nq, rfl⟩
  · rw [hb] at c1
    clear hb
    go_enter Tryz.func193, Tryz.ntmps193
    go_wp2_with fail
    go_quiet (fail)
    go_wp2
    go_ret
    exact ⟨ret_b (by simp), nq, rfl⟩
end Go.Proofs.YtjfggodnfoknfaaGreatDoor

