/- Contract of the elimination's reduced.
   Contract of matrix.filled.
   Contract of matrix.filled: the walk.
   Contract of matrix.Make.
   Contracts of matrix.Check, at and there.
   Contract of Minor's entries. -/
import Derived.Test.YtjfggodnfoknfaaGreatDoorM27
import Derived.Laws.EntriesVeiled
set_option maxRecDepth 100000
set_option maxHeartbeats 16000000
namespace Go.Proofs.YtjfggodnfoknfaaGreatDoor
open Go.RowKit
/-- A store of what is there already. -/
theorem below_same {B X k : Nat} {w W : World} {T : TypeId} {us : List Value} {v : Value} (h : Below B w W) (hB : BL W X T us) (hk : us[k]? = some v) : Below B w (W.setCell ⟨X, k, none⟩ v) := by
  have e : us.set k v = us := by
    apply List.ext_getElem?
    intro i
    rw [List.getElem?_set]
    split
    · next e => subst e; have := (List.getElem?_eq_some_iff.1 hk).1; rw [if_pos this, hk]
    · rfl
  have hs := hB.set k v
  rw [e] at hs
  refine h.trans ⟨rfl, rfl, rfl, by simp, fun j hj => ?_⟩
  by_cases hj2 : j = X
  · subst hj2; exact hs.trans hB.symm
  · exact heap_setCell_other W _ j _ (by exact hj2)
theorem reduced_any (X : Nat) (vr vs vk : Value) (a d b c l r : Int) (w : World) (hX : BL w X 125 [vr, zV l, vs, vk, .int .i64 0]) (ha : a.natAbs < 1000000000) (hd : d.natAbs < 1000000000) (hb : b.natAbs < 1000000000) (hc : c.natAbs < 1000000000)
    (h1 : (a * d).natAbs + (b * c).natAbs < 1000000000) (hl : l.natAbs < 1000000000) (hl0 : l ≠ 0) (hr : a * d - b * c = l * r) (ht : TB w) :
    Calls Tryz.prog 159 #[.pointer (some ⟨X, 0, none⟩), zV a, zV d, zV b, zV c] w fun e w' => e = .returned (zV r) ∧ Below w.heap.size w w' := by
  have H1 : Hid (∀ W, Below w.heap.size w W → Calls Tryz.prog 177 #[zV a, zV d] W fun e w' => e = .returned (.tuple #[zV (a * d), .int .i64 0]) ∧ Below W.heap.size W w') := fun W h => imul_any a d W ha hd (by omega) (ht.below h)
  have H2 : Hid (∀ W, Below w.heap.size w W → Calls Tryz.prog 177 #[zV b, zV c] W fun e w' => e = .returned (.tuple #[zV (b * c), .int .i64 0]) ∧ Below W.heap.size W w') := fun W h => imul_any b c W hb hc (by omega) (ht.below h)
  have H3 : Hid (∀ W, Below w.heap.size w W → Calls Tryz.prog 178 #[zV (a * d), zV (b * c)] W fun e w' => e = .returned (.tuple #[zV (a * d - b * c), .int .i64 0]) ∧ Below W.heap.size W w') := fun W h => isub_any _ _ W (by omega) (by omega) h1 (ht.below h)
  have H4 : Hid (∀ W, Below w.heap.size w W → Calls Tryz.prog 179 #[zV (a * d - b * c), zV l] W fun e w' => e = .returned (.tuple #[zV r, .int .i64 0]) ∧ Below W.heap.size W w') := fun W h => iquo_any _ l r W (by omega) hl hl0 hr (ht.below h)
  have HX := Lib.hid hX
  have c4 : w.cell? ⟨X, 4, none⟩ = some (.int .i64 0) := hX.cell 4
  have HC : Hid (∀ W, Below w.heap.size w W → W.cell? ⟨X, 4, none⟩ = some (.int .i64 0) ∧ W.frozen? ⟨X, 4, none⟩ = false ∧ W.cell? ⟨X, 1, none⟩ = some (zV l)) := fun W h => ⟨(hX.bel h).cell 4, (hX.bel h).frozen 4, (hX.bel h).cell 1⟩
  have HS : Hid (∀ W, Below w.heap.size w W → Below w.heap.size w (W.setCell ⟨X, 4, none⟩ (.int .i64 0))) := fun W h => below_same h (hX.bel h) (k := 4) rfl
  clear ha hd hb hc h1 hl hl0 hr ht hX
  generalize a * d - b * c = s at *
  generalize a * d = p at *
  generalize b * c = q at *
  unfold zV at *
  generalize (⟨(Go.Lib.itoa a).toArray⟩ : ByteArray) = Sa at *
  generalize (⟨(Go.Lib.itoa b).toArray⟩ : ByteArray) = Sb at *
  generalize (⟨(Go.Lib.itoa c).toArray⟩ : ByteArray) = Sc at *
  generalize (⟨(Go.Lib.itoa d).toArray⟩ : ByteArray) = Sd at *
  generalize (⟨(Go.Lib.itoa l).toArray⟩ : ByteArray) = Sl at *
  generalize (⟨(Go.Lib.itoa p).toArray⟩ : ByteArray) = Sp at *
  generalize (⟨(Go.Lib.itoa q).toArray⟩ : ByteArray) = Sq at *
  generalize (⟨(Go.Lib.itoa s).toArray⟩ : ByteArray) = Ss at *
  generalize (⟨(Go.Lib.itoa r).toArray⟩ : ByteArray) = Sr at *
  go_enter Tryz.func159, Tryz.ntmps159
  go_wp2_with fail
  refine (H1.out w (Below.refl _ _)).mono ?_
  rintro e w1 ⟨rfl, hb1⟩
  obtain ⟨c1, f1, -⟩ := HC.out w1 hb1
  have HB1 := Lib.hid (HS.out w1 hb1)
  clear hb1 c4
  go_wp2_with fail
  refine (H2.out _ HB1.out).mono ?_
  rintro e w2 ⟨rfl, hb2⟩
  have hb2' := HB1.out.trans (hb2.mono HB1.out.size)
  obtain ⟨c2, f2, -⟩ := HC.out w2 hb2'
  have HB2 := Lib.hid (HS.out w2 hb2')
  clear hb2 hb2' c1 f1
  go_wp2_with fail
  refine (H3.out _ HB2.out).mono ?_
  rintro e w3 ⟨rfl, hb3⟩
  have hb3' := HB2.out.trans (hb3.mono HB2.out.size)
  obtain ⟨c3, f3, l3⟩ := HC.out w3 hb3'
  have HB3 := Lib.hid (HS.out w3 hb3')
  clear hb3 hb3' c2 f2
  go_wp2_with fail
  refine (H4.out _ HB3.out).mono ?_
  rintro e w4 ⟨rfl, hb4⟩
  have hb4' := HB3.out.trans (hb4.mono HB3.out.size)
  obtain ⟨c5, f5, -⟩ := HC.out w4 hb4'
  have HB4 := Lib.hid (HS.out w4 hb4')
  clear hb4 hb4' c3 f3 l3
  go_wp2
  go_ret
  exact ⟨rfl, HB4.out⟩
end Go.Proofs.YtjfggodnfoknfaaGreatDoor

namespace Go.Proofs.YtjfggodnfoknfaaGreatDoor
open Go.RowKit
theorem text_info : (Tryz.prog.info? 35).map (fun i => (i.zero, i.size, i.bytes)) = some (some (.string ByteArray.empty), 1, 16) := by kernel_rfl
theorem text_parts : ∃ i z, Tryz.prog.info? 35 = some i ∧ i.zero = some z ∧ i.size = 1 ∧ i.bytes = 16 ∧ z.cells.size = 1 := by
  obtain ⟨i, hi, h1⟩ := Option.map_eq_some_iff.1 text_info
  obtain ⟨hz, hs, hb⟩ : i.zero = some (.string ByteArray.empty) ∧ i.size = 1 ∧ i.bytes = 16 := by simpa using h1
  exact ⟨i, _, hi, hz, hs, hb, rfl⟩
theorem zmat_size : (Tryz.prog.info? 84).map (·.size) = some 3 := by kernel_rfl
/-- A matrix of integers. -/
def ZM (w : World) (v : Value) (r c : Nat) (zs : List Int) : Prop := ∃ A cap, v = .agg #[.int .i64 (r : Int), .int .i64 (c : Int), .slice A zs.length cap] ∧ RV w (.slice A zs.length cap) (zs.map zV) ∧ zs.length = r * c
theorem ZM.below {w w' : World} {v : Value} {r c : Nat} {zs : List Int} (h : ZM w v r c zs) (hb : Below w.heap.size w w') : ZM w' v r c zs := by
  obtain ⟨A, cap, e, h, hl⟩ := h
  exact ⟨A, cap, e, h.below hb, hl⟩
/-- The matrix in the making. -/
def FiI (w : World) (r c : Nat) (zs : List Int) (W : World) : Prop :=
  BL W w.heap.size 84 [.int .i64 0, .int .i64 0, .slice none 0 0] ∧ (∃ v, BL W (w.heap.size + 1) 84 [.int .i64 (r : Int), .int .i64 (c : Int), v] ∧ OV W (w.heap.size + 2) 35 v (zs.map zV)) ∧ Below w.heap.size w W
theorem FiI.bel {w W W' : World} {r c : Nat} {zs : List Int} (h : FiI w r c zs W) (hb : Below W.heap.size W W') : FiI w r c zs W' := by
  obtain ⟨h1, ⟨v, h2, h3⟩, h4⟩ := h
  exact ⟨h1.bel hb, ⟨v, h2.bel hb, h3.below hb⟩, h4.trans (hb.mono h4.size)⟩
/-- A box of another type outlives an append. -/
theorem ovBox' {w w' : World} {B b : Nat} {e T : TypeId} {v : Value} {us xs : List Value} (h : BL w b T xs) (h' : OV w B e v us) (hne : e ≠ T) (hg : w.grownBy w' v.ownBlock) : BL w' b T xs := by
  refine h.grown hg ?_
  intro hv
  obtain ⟨cur, hc⟩ := h'.blk hv
  unfold BL at h
  rw [h] at hc
  injection hc with hc
  injection hc with _ hc
  exact hne hc.symm
theorem FiI.step {w W w1 : World} {r c g1 n cap1 : Nat} {zs : List Int} {z : Int} {v : Value} (h1 : BL W w.heap.size 84 [.int .i64 0, .int .i64 0, .slice none 0 0]) (h2 : BL W (w.heap.size + 1) 84 [.int .i64 (r : Int), .int .i64 (c : Int), v])
    (h3 : OV W (w.heap.size + 2) 35 v (zs.map zV)) (h4 : Below w.heap.size w W) (hown : OV w1 (w.heap.size + 2) 35 (.slice (some ⟨g1, 0, none⟩) n cap1) (zs.map zV ++ [zV z]))
    (hg : (W.alloc (.cells #[zV z] 35)).grownBy w1 v.ownBlock) :
    BL w1 (w.heap.size + 1) 84 [.int .i64 (r : Int), .int .i64 (c : Int), v] ∧ Hid (FiI w r c (zs ++ [z]) (w1.setCell ⟨w.heap.size + 1, 2, none⟩ (.slice (some ⟨g1, 0, none⟩) n cap1))) := by
  have hb := below_alloc W (.cells #[zV z] 35)
  have ho := h3.below hb
  have e1 := ovBox' (h1.bel hb) ho (by decide) hg
  have e2 := ovBox' (h2.bel hb) ho (by decide) hg
  have hset := grownBy_setCell' w1 (w.heap.size + 1) (.slice (some ⟨g1, 0, none⟩) n cap1)
  have hs2 : w.heap.size + 1 < W.heap.size := h2.lt
  have hbel : Below w.heap.size w w1 := below_own (h4.trans (hb.mono h4.size)) (by simp; omega) (ho.mono (by omega)) hg
  refine ⟨e2, e1.set_other (by simp) _, ⟨_, e2.set 2 _, ?_⟩, hbel.setCell (p := ⟨w.heap.size + 1, 2, none⟩) (by simp) _⟩
  have hset2 : w1.grownBy (w1.setCell ⟨w.heap.size + 1, 2, none⟩ (.slice (some ⟨g1, 0, none⟩) n cap1)) (some (w.heap.size + 1)) := ⟨rfl, rfl, rfl, by simp, fun k _ hne => heap_setCell_other _ _ _ _ (fun e => hne (by rw [e]))⟩
  have := OV.keptBox hown e2 (by decide) hset2
  simpa using this
/-- A function value that gives the texts of numbers. -/
def CloZ (P : Program) (w : World) (fn : Nat) (caps : Array Value) (r c : Nat) (f : Nat → Nat → Int) : Prop :=
  (∀ args W, (callFunc fn args).run P W = .ok (.enter fn args) W) ∧ ∀ W, Below w.heap.size w W → ∀ i k, i < r → k < c → Calls P fn (#[.int .i64 (i : Int), .int .i64 (k : Int)] ++ caps) W fun e w' => e = .returned (.tuple #[zV (f i k), .int .i64 0]) ∧ Below W.heap.size W w'
/-- The first entries, row by row. -/
def tabL (g : Nat → Int) (n : Nat) : List Int := (List.range n).map g
theorem tabL_succ (g : Nat → Int) (n : Nat) : tabL g (n + 1) = tabL g n ++ [g n] := by unfold tabL; rw [List.range_succ, List.map_append]; rfl
theorem tabL_len (g : Nat → Int) (n : Nat) : (tabL g n).length = n := by simp [tabL]
end Go.Proofs.YtjfggodnfoknfaaGreatDoor

namespace Go.Proofs.YtjfggodnfoknfaaGreatDoor
open Go.RowKit
theorem results_row_tmpN {P : Program} {fn : Func} {p u : Tmp} {ty : TypeId} (h : fn.results = #[.cell p ty, .tmp u]) (tmps : Array Value) (w : World) (g : Nat) (t : TypeId) (cs : Array Value) (fr : Nat × Nat) (d : TypeDesc)
    (hp : tmps.getD p undef = .pointer (some ⟨g, 0, none⟩)) (hg : w.heap[g]? = some (.cells cs t fr))
    (hu : P.underlying ty = some d) (hd : (match d with | .struct _ | .array _ _ => true | _ => false) = true) (hi : (P.info? ty).map (·.size) = some cs.size) :
    (results fn tmps).run P w = .ok (.tuple #[.agg cs, tmps.getD u undef]) w := by
  have hp' : tmps[p]?.getD undef = .pointer (some ⟨g, 0, none⟩) := by simpa using hp
  simp [results, h, hp', asAddr, run_loadVar_row w g t ty cs fr d hg hu hd hi]
theorem filled_any (r c fn : Nat) (caps : Array Value) (f : Nat → Nat → Int) (g : Nat → Int) (w : World) (hf : CloZ Tryz.prog w fn caps r c f) (hr : r ≤ 6) (hc : c ≤ 6) (hg : ∀ i k, i < r → k < c → g (i * c + k) = f i k) :
    Calls Tryz.prog 124 #[.int .i64 (r : Int), .int .i64 (c : Int), .func (.func fn) #[] caps] w fun e w' => ∃ u, e = .returned (.tuple #[u, .int .i64 0]) ∧ ZM w' u r c (tabL g (r * c)) ∧ Below w.heap.size w w' := by
  obtain ⟨i0, zz, hi, hz0, hz1, hz2, hz3⟩ := text_parts
  obtain ⟨hen, hcall⟩ := hf
  obtain ⟨W0, hW0⟩ : ∃ W0, W0 = (w.alloc (.cells #[.int .i64 0, .int .i64 0, .slice none 0 0] 84)).alloc (.cells #[.int .i64 (r : Int), .int .i64 (c : Int), .slice none 0 0] 84) := ⟨_, rfl⟩
  have hFi : FiI w r c (tabL g (0 * c)) W0 := by
    refine ⟨?_, ⟨.slice none 0 0, ?_, ?_⟩, by rw [hW0]; go_grown⟩
    · rw [hW0]; exact (BL.new' w _ _).alloc _
    · have := BL.new' (w.alloc (.cells #[.int .i64 0, .int .i64 0, .slice none 0 0] 84)) #[.int .i64 (r : Int), .int .i64 (c : Int), .slice none 0 0] 84
      rw [World.size_alloc] at this
      rw [hW0]; exact this
    · rw [Nat.zero_mul]; exact OV.nil_ _ _ _
  have HFi := Lib.hid hFi
  have HF := Lib.hid hcall
  have HG := Lib.hid hg
  have HW0 := Lib.hid hW0
  clear hFi hcall hg hW0
  go_enter Tryz.func124, Tryz.ntmps124
  go_wp2_with fail
  rw [← HW0.out]
  go_loopw [17] (fun ii wr => ∃ i : Nat, i ≤ r ∧ ii = .int .i64 (i : Int) ∧ Hid (FiI w r c (tabL g (i * c)) wr)) (fun ii _ => r - (intOf ii).toNat)
  case atStart => exact ⟨0, Nat.zero_le _, rfl, HFi.out⟩
  case round =>
    obtain ⟨i, hir, rfl, hfi⟩ := hrel
    obtain ⟨wo, rfl⟩ : ∃ wo : World, wo = wr := ⟨_, rfl⟩
    by_cases hlt : i < r
    · go_wp2_with fail
      go_loopw [21] (fun kk wr => ∃ k : Nat, k ≤ c ∧ kk = .int .i64 (k : Int) ∧ Hid (FiI w r c (tabL g (i * c + k)) wr)) (fun kk _ => c - (intOf kk).toNat)
      case atStart => exact ⟨0, Nat.zero_le _, rfl, hfi.out⟩
      case round =>
        obtain ⟨k, hkc, rfl, hfk⟩ := hrel
        by_cases hlt2 : k < c
        · have hgk := HG.out i k hlt hlt2
          have hts := tabL_succ g (i * c + k)
          have hln : (tabL g (i * c + k)).length ≤ 1000 := by
            rw [tabL_len]
            have h1 : i * c ≤ 6 * 6 := Nat.mul_le_mul (by omega) hc
            omega
          rw [hgk] at hts
          have HC := Lib.hid (HF.out wr (by obtain ⟨_, _, h⟩ := hfk.out; exact h) i k hlt hlt2)
          obtain ⟨S, hS⟩ : ∃ S, zV (f i k) = .string S := ⟨_, rfl⟩
          have HStep : Hid (∀ (W w1 : World) (v : Value) (g1 n cap1 : Nat), BL W w.heap.size 84 [.int .i64 0, .int .i64 0, .slice none 0 0] → BL W (w.heap.size + 1) 84 [.int .i64 (r : Int), .int .i64 (c : Int), v] →
              OV W (w.heap.size + 2) 35 v ((tabL g (i * c + k)).map zV) → Below w.heap.size w W → OV w1 (w.heap.size + 2) 35 (.slice (some ⟨g1, 0, none⟩) n cap1) ((tabL g (i * c + k)).map zV ++ [.string S]) →
              (W.alloc (.cells #[.string S] 35)).grownBy w1 v.ownBlock →
              BL w1 (w.heap.size + 1) 84 [.int .i64 (r : Int), .int .i64 (c : Int), v] ∧ Hid (FiI w r c (tabL g (i * c + (k + 1))) (w1.setCell ⟨w.heap.size + 1, 2, none⟩ (.slice (some ⟨g1, 0, none⟩) n cap1)))) := by
            intro W w1 v g1 n cap1 h1 h2 h3 h4 h5 h6
            rw [← hS] at h5 h6
            have := FiI.step (z := f i k) h1 h2 h3 h4 h5 h6
            rw [← hts] at this
            exact this
          rw [hS] at HC
          have HLn := Lib.hid hln
          clear hgk hts hS hln
          go_wp2_with fail
          refine HC.out.mono ?_
          rintro e w2 ⟨rfl, hb2⟩
          obtain ⟨h1, ⟨v, h2, h3⟩, h4⟩ := hfk.out.bel hb2
          have c2 : w2.cell? ⟨w.heap.size + 1, 2, none⟩ = some v := h2.cell 2
          have hx1 := Lib.hid (RV.ones w2 (.string S) 35)
          have ho := Lib.hid (h3.below (below_alloc w2 (.cells #[.string S] 35)))
          have hone := Lib.hid (one_ones (u := .string S) rfl)
          have hsz : w.heap.size + 2 ≤ w2.heap.size := h2.lt
          have HSt := Lib.hid (fun w1 g1 n cap1 => HStep.out w2 w1 v g1 n cap1 h1 h2 h3 h4)
          have HLn2 : Hid (((tabL g (i * c + k)).map zV).length ≤ 1000) := by show _ ≤ _; rw [List.length_map]; exact HLn.out
          generalize (tabL g (i * c + k)).map zV = us at *
          clear h1 h2 h3 h4 hb2 HC HStep
          go_wp2_with (at_builtin; refine wpList_appendV _ rfl _ _ _ rfl 35 i0 _ 16 Tryz.underlying82 hi hz0 hz1 hz2 hz3 (w.heap.size + 2) _ _ rfl ho.out _ _ rfl hx1.out hone.out (by simp; have := HLn2.out; omega) (by simp; have := HLn2.out; omega) (by simp; omega) ?_; intro v1 w1 hown1 hg1 hat1; obtain ⟨g1, cap1, rfl, hgB, hgl⟩ := OV.shape hown1 (by simp); obtain ⟨hbx, hfin⟩ := HSt.out w1 g1 _ cap1 hown1 hg1; have hcb : w1.cell? ⟨w.heap.size + 1, 2, none⟩ = some v := hbx.cell 2; have hfb := hbx.frozen 2; have HFin := Lib.hid hfin.out; clear hown1 hg1 hat1 hbx hfin)
          go_roundw
          case rel => exact ⟨k + 1, by omega, by go_num, by
            have := HFin.out
            rw [show (us ++ [Value.string S]).length = us.length + 1 by simp] at this
            exact this⟩
          case measure => simp [intOf]; omega
        · obtain rfl : k = c := by omega
          have hfe := hfk.out
          rw [← Nat.succ_mul] at hfe
          have HFe := Lib.hid hfe
          clear hfe
          go_wp2
          go_roundw
          case rel => exact ⟨i + 1, by omega, by go_num, HFe.out⟩
          case measure => simp [intOf]; omega
    · obtain rfl : i = r := by omega
      obtain ⟨h1, ⟨v, h2, h3⟩, h4⟩ := hfi.out
      obtain ⟨A9, cap, rfl, q1, q2, q3⟩ := h3.rv
      rw [List.length_map] at h2 h3 q1 q2 q3
      have a0 := h2.cell 0
      have a1 := h2.cell 1
      have a2 : wo.cell? ⟨w.heap.size + 1, 2, none⟩ = some (.slice A9 (tabL g (i * c)).length cap) := h2.cell 2
      have y0 := h1.cell 0
      have y1 := h1.cell 1
      have y2 := h1.cell 2
      have z0 := h1.frozen 0
      have z1 := h1.frozen 1
      have z2 := h1.frozen 2
      have H1 := Lib.hid h1
      have H3 := Lib.hid h3
      have H4 := Lib.hid h4
      clear h1 h2 h3 h4 q1 q2 q3
      go_wp2
      refine bodyPost_ret (results_row_tmpN rfl _ _ w.heap.size 84 #[.int .i64 (i : Int), .int .i64 (c : Int), .slice A9 (tabL g (i * c)).length cap] (0, 0) _ rfl (((H1.out.set 0 _).set 1 _).set 2 _) Tryz.underlying84 rfl zmat_size) rfl ?_
      refine ⟨_, rfl, ⟨A9, cap, rfl, ?_, tabL_len _ _⟩, ((H4.out.setCell (p := ⟨w.heap.size, 0, none⟩) (Nat.le_refl _) _).setCell (p := ⟨w.heap.size, 1, none⟩) (Nat.le_refl _) _).setCell (p := ⟨w.heap.size, 2, none⟩) (Nat.le_refl _) _⟩
      have hs : ∀ (W : World) (k : Nat) (x : Value), W.grownBy (W.setCell ⟨w.heap.size, k, none⟩ x) (some w.heap.size) := fun W k x => ⟨rfl, rfl, rfl, by simp, fun j _ hne => heap_setCell_other _ _ _ _ (fun e => hne (by rw [e]))⟩
      have g1 := OV.keptBox H3.out H1.out (by decide) (hs wo 0 (.int .i64 (i : Int)))
      have g2 := OV.keptBox g1 (H1.out.set 0 _) (by decide) (hs _ 1 (.int .i64 (c : Int)))
      have g3 := OV.keptBox g2 ((H1.out.set 0 _).set 1 _) (by decide) (hs _ 2 (.slice A9 (tabL g (i * c)).length cap))
      exact g3.rv
end Go.Proofs.YtjfggodnfoknfaaGreatDoor

namespace Go.Proofs.YtjfggodnfoknfaaGreatDoor
open Go.RowKit
theorem wrap64_small (n : Nat) (h : n ≤ 1000000) : wrap64 (n : Int) = (n : Int) := by rw [IntWalk.wrap64_in] <;> omega
theorem make1_any (b4 b5 c i k : Nat) (v : Value) (l : List Int) (w : World) (h4 : w.cell? ⟨b4, 0, none⟩ = some (.int .i64 (c : Int))) (h5 : w.cell? ⟨b5, 0, none⟩ = some v) (hl : RI w v l) (hik : i * c + k < l.length) (hc : c ≤ 6) (hi : i ≤ 6) (hk : k ≤ 6) (hb : (l.getD (i * c + k) 0).natAbs < 1000000000) (ht : TB w) :
    Calls Tryz.prog 176 #[.int .i64 (i : Int), .int .i64 (k : Int), .pointer (some ⟨b5, 0, none⟩), .pointer (some ⟨b4, 0, none⟩)] w fun e w' => e = .returned (.tuple #[zV (l.getD (i * c + k) 0), .int .i64 0]) ∧ Below w.heap.size w w' := by
  obtain ⟨A, cap, rfl, h2, h3, hcl⟩ := hl.open_
  obtain ⟨ad, z, rfl, hadb, hz, hcz⟩ := hcl _ hik
  have hzz : l.getD (i * c + k) 0 = z := by
    have := hz.out
    rw [List.getD_eq_getElem?_getD, this]; rfl
  rw [hzz] at hb ⊢
  have HO := Lib.hid (iof_any z w (by omega) (by omega) ht)
  have hp : (i : Int) * (c : Int) = ((i * c : Nat) : Int) := by simp
  have hple : i * c ≤ 36 := Nat.le_trans (Nat.mul_le_mul hi hc) (by omega)
  generalize i * c = p at *
  have hq : (p : Int) + (k : Int) = ((p + k : Nat) : Int) := by simp
  have hple2 : p + k ≤ 100 := by omega
  generalize p + k = q at *
  have w1 : wrap64 (p : Int) = (p : Int) := wrap64_small p (by omega)
  have w2 : wrap64 (q : Int) = (q : Int) := wrap64_small q (by omega)
  have hlt : (q : Int) < (l.length : Int) := Int.ofNat_lt.2 hik
  unfold zV at *
  generalize (⟨(Go.Lib.itoa z).toArray⟩ : ByteArray) = S at *
  clear hl hcl hz hzz hb ht hi hc hk
  go_enter Tryz.func176, Tryz.ntmps176
  go_wp2_with fail
  refine HO.out.mono ?_
  rintro e w2 ⟨rfl, hb2⟩
  go_wp2
  go_ret2
  exact ⟨rfl, hb2⟩
theorem tabL_get (l : List Int) : tabL (fun j => l.getD j 0) l.length = l := by
  unfold tabL
  apply List.ext_getElem?
  intro i
  by_cases h : i < l.length
  · rw [List.getElem?_map, List.getElem?_range h]
    simp [List.getElem?_eq_getElem h]
  · rw [List.getElem?_eq_none (by simp; omega), List.getElem?_eq_none (by omega)]
/-- Texts do not lie in a matrix's box. -/
theorem RV.box3 {W : World} {v : Value} {zs : List Int} {g : Nat} {x0 x1 : Int} {y : Value} (h : RV W v (zs.map zV)) (hB : BL W g 84 [.int .i64 x0, .int .i64 x1, y]) (x : Value) (k : Nat) (hy : ∀ S, y ≠ .string S := by (intro S h; cases h)) : RV (W.setCell ⟨g, k, none⟩ x) v (zs.map zV) := by
  obtain ⟨A, c, rfl, h2, h3, h4⟩ := h
  refine ⟨A, c, rfl, h2, h3, fun j hj => ?_⟩
  obtain ⟨ad, rfl, hb, hc⟩ := h4 j hj
  refine ⟨ad, rfl, by simpa using hb, ?_⟩
  have hne : (ad.add j).block ≠ g := fun e => by
    have hj2 : (zs.map zV)[j]? = some (zV (zs.getD j 0)) := by
      rw [List.length_map] at hj
      rw [List.getElem?_map, List.getElem?_eq_getElem hj, List.getD_eq_getElem?_getD, List.getElem?_eq_getElem hj]; rfl
    rw [hj2] at hc
    unfold World.cell? at hc
    rw [e, show W.heap[g]? = _ from hB] at hc
    simp only at hc
    split at hc
    · cases hc
    · match ho : (ad.add j).off with
      | 0 => rw [ho] at hc; simp [zV] at hc
      | 1 => rw [ho] at hc; simp [zV] at hc
      | 2 => rw [ho] at hc; simp at hc; exact hy _ hc
      | k + 3 => rw [ho] at hc; simp at hc
  have e3 : (W.setCell ⟨g, k, none⟩ x).cell? (ad.add j) = W.cell? (ad.add j) := by
    unfold World.cell?
    rw [heap_setCell_other _ _ _ _ hne]
  rw [e3, hc]
theorem side_any (n : Nat) (w : World) (hn : n ≤ 16) : Calls Tryz.prog 127 #[.int .i64 (n : Int)] w fun e w' => e = .returned (.bool true) ∧ w = w' := by
  have t1 : (n : Int) ≤ 16 := by omega
  have t2 : (0 : Int) ≤ (n : Int) := by omega
  clear hn
  go_enter Tryz.func127, Tryz.ntmps127
  go_wp2
  go_ret
  exact ⟨rfl, rfl⟩
theorem make_any (n : Nat) (v : Value) (l : List Int) (w : World) (hl : RI w v l) (hn : n ≤ 6) (hll : l.length = n * n) (hb : ∀ j, (l.getD j 0).natAbs < 1000000000) (ht : TB w) :
    Calls Tryz.prog 155 #[.int .i64 (n : Int), .int .i64 (n : Int), v] w fun e w' => ∃ u, e = .returned (.tuple #[u, .int .i64 0]) ∧ ZM w' u n n l ∧ Below w.heap.size w w' := by
  obtain ⟨A, cap, rfl, -⟩ := hl.open_
  obtain ⟨W0, hW0⟩ : ∃ W0, W0 = ((w.alloc (.cells #[.int .i64 (n : Int)] 3)).alloc (.cells #[.slice A l.length cap] 25)).alloc (.cells #[.int .i64 0, .int .i64 0, .slice none 0 0] 84) := ⟨_, rfl⟩
  have hs0 : W0.heap.size = w.heap.size + 3 := by rw [hW0]; simp
  have hb0 : Below w.heap.size w W0 := by rw [hW0]; go_grown
  have e4 : BL W0 w.heap.size 3 [.int .i64 (n : Int)] := by rw [hW0]; exact ((BL.new' w _ _).alloc _).alloc _
  have e5 : BL W0 (w.heap.size + 1) 25 [.slice A l.length cap] := by
    have := BL.new' (w.alloc (.cells #[.int .i64 (n : Int)] 3)) #[.slice A l.length cap] 25
    rw [World.size_alloc] at this
    rw [hW0]; exact this.alloc _
  have e6 : BL W0 (w.heap.size + 2) 84 [.int .i64 0, .int .i64 0, .slice none 0 0] := by
    have := BL.new' ((w.alloc (.cells #[.int .i64 (n : Int)] 3)).alloc (.cells #[.slice A l.length cap] 25)) #[.int .i64 0, .int .i64 0, .slice none 0 0] 84
    simp only [World.size_alloc] at this
    rw [hW0]; exact this
  have hcl : CloZ Tryz.prog W0 176 #[.pointer (some ⟨w.heap.size + 1, 0, none⟩), .pointer (some ⟨w.heap.size, 0, none⟩)] n n (fun i k => l.getD (i * n + k) 0) :=
    ⟨enters_of Tryz.func176 (by kernel_rfl) rfl, fun W h i k hi hk => make1_any _ _ n i k _ l W ((e4.bel h).cell 0) ((e5.bel h).cell 0) ((RI.below hl hb0).below h) (by
      rw [hll]
      have h1 : (i + 1) * n ≤ n * n := Nat.mul_le_mul_right n (by omega)
      rw [Nat.succ_mul] at h1
      omega) hn (by omega) (by omega) (hb _) ((ht.below hb0).below h)⟩
  have hfi := filled_any n n 176 #[.pointer (some ⟨w.heap.size + 1, 0, none⟩), .pointer (some ⟨w.heap.size, 0, none⟩)] _ (fun j => l.getD j 0) W0 hcl hn hn (fun i k _ _ => rfl)
  rw [← hll, tabL_get] at hfi
  have HFi := Lib.hid hfi
  have HE6 := Lib.hid e6
  have HE4 := Lib.hid e4
  have HE5 := Lib.hid e5
  have HB0 := Lib.hid hb0
  have HN := Lib.hid hs0
  have t1 : (n : Int) * (n : Int) = ((n * n : Nat) : Int) := by simp
  have t2 : n * n ≤ 36 := Nat.le_trans (Nat.mul_le_mul hn hn) (by omega)
  rw [← hll] at t1 t2
  have t3 : wrap64 (l.length : Int) = (l.length : Int) := wrap64_small _ (by omega)
  have HSi : Hid (∀ W, Calls Tryz.prog 127 #[.int .i64 (n : Int)] W fun e w' => e = .returned (.bool true) ∧ W = w') := fun W => side_any n W (by omega)
  have HW0 := Lib.hid hW0
  clear hl hb ht e4 e5 e6 hcl hfi hb0 hs0 hll t2 hW0 hn
  go_enter Tryz.func155, Tryz.ntmps155
  go_wp2_with fail
  rw [← HW0.out]
  have k4 := HE4.out.cell 0
  have k5 := HE5.out.cell 0
  refine (HSi.out _).mono ?_
  rintro e w1 ⟨rfl, rfl⟩
  go_wp2_with fail
  refine (HSi.out _).mono ?_
  rintro e w1 ⟨rfl, rfl⟩
  go_wp2_with fail
  refine HFi.out.mono ?_
  rintro e w2 ⟨u, rfl, ⟨A9, cap9, rfl, hr9, hl9⟩, hb2⟩
  have e6 := HE6.out.bel hb2
  have y0 := e6.cell 0
  have y1 := e6.cell 1
  have y2 := e6.cell 2
  have z0 := e6.frozen 0
  have z1 := e6.frozen 1
  have z2 := e6.frozen 2
  have H6 := Lib.hid e6
  have HR9 := Lib.hid hr9
  have HL9 := Lib.hid hl9
  have HB2 := Lib.hid (HB0.out.trans (hb2.mono HB0.out.size))
  clear e6 hr9 hb2 hl9
  go_wp2_with fail
  refine bodyPost_ret (results_row_tmpN rfl _ _ (w.heap.size + 2) 84 #[.int .i64 (n : Int), .int .i64 (n : Int), .slice A9 l.length cap9] (0, 0) _ rfl (((H6.out.set 0 _).set 1 _).set 2 _) Tryz.underlying84 rfl zmat_size) rfl ?_
  refine ⟨_, rfl, ⟨A9, cap9, rfl, ?_, HL9.out⟩, ((HB2.out.setCell (p := ⟨w.heap.size + 2, 0, none⟩) (by simp) _).setCell (p := ⟨w.heap.size + 2, 1, none⟩) (by simp) _).setCell (p := ⟨w.heap.size + 2, 2, none⟩) (by simp) _⟩
  exact ((HR9.out.box3 H6.out (.int .i64 (n : Int)) 0).box3 (H6.out.set 0 _) (.int .i64 (n : Int)) 1).box3 ((H6.out.set 0 _).set 1 _) (.slice A9 l.length cap9) 2
end Go.Proofs.YtjfggodnfoknfaaGreatDoor

namespace Go.Proofs.YtjfggodnfoknfaaGreatDoor
open Go.RowKit
/-- All entries are below 10^9. -/
def Sml (zs : List Int) : Prop := ∀ j, (zs.getD j 0).natAbs < 1000000000
theorem zget {zs : List Int} {k : Nat} (hk : k < zs.length) : (zs.map zV)[k]? = some (zV (zs.getD k 0)) := by
  rw [List.getElem?_map, List.getElem?_eq_getElem hk, List.getD_eq_getElem?_getD, List.getElem?_eq_getElem hk]; rfl
theorem RV.cellz {w : World} {A : Option Addr} {n c : Nat} {zs : List Int} (h : RV w (.slice A n c) (zs.map zV)) {k : Nat} (hk : k < zs.length) : ∃ ad, A = some ad ∧ ad.block < w.heap.size ∧ w.cell? (ad.add k) = some (zV (zs.getD k 0)) := by
  obtain ⟨A', c', e, -, -, h4⟩ := h
  simp only [Value.slice.injEq] at e
  obtain ⟨rfl, -, -⟩ := e
  obtain ⟨ad, rfl, hb, h5⟩ := h4 k (by rw [List.length_map]; exact hk)
  rw [zget hk] at h5
  exact ⟨ad, rfl, hb, h5⟩
theorem mcheck_any (v : Value) (r c : Nat) (zs : List Int) (w : World) (hv : ZM w v r c zs) (hr : r ≤ 6) (hc : c ≤ 6) (hs : Sml zs) :
    Calls Tryz.prog 90 #[v] w fun e w' => e = .returned (.int .i64 0) ∧ Below w.heap.size w w' := by
  obtain ⟨A, cap, rfl, hrv, hl⟩ := hv
  have HSr : Hid (∀ W, Calls Tryz.prog 127 #[.int .i64 (r : Int)] W fun e w' => e = .returned (.bool true) ∧ W = w') := fun W => side_any r W (by omega)
  have HSc : Hid (∀ W, Calls Tryz.prog 127 #[.int .i64 (c : Int)] W fun e w' => e = .returned (.bool true) ∧ W = w') := fun W => side_any c W (by omega)
  have HCh : Hid (∀ W k, Calls Tryz.prog 93 #[zV (zs.getD k 0)] W fun e w' => e = .returned (.int .i64 0) ∧ Below W.heap.size W w') := fun W k => icheck_any _ W (hs k)
  have HRV : Hid (∀ W, Below w.heap.size w W → ∀ k, k < zs.length → ∃ ad S, A = some ad ∧ zV (zs.getD k 0) = .string S ∧ W.cell? (ad.add k) = some (.string S)) := fun W hb k hk => by
    obtain ⟨ad, rfl, -, h5⟩ := (hrv.below hb).cellz hk
    exact ⟨ad, _, rfl, rfl, h5⟩
  have t1 : (r : Int) * (c : Int) = (zs.length : Int) := by rw [hl]; simp
  have t2 : wrap64 (zs.length : Int) = (zs.length : Int) := wrap64_small _ (by rw [hl]; exact Nat.le_trans (Nat.mul_le_mul hr hc) (by omega))
  have HB0 := Lib.hid (below_alloc w (.cells #[.int .i64 (r : Int), .int .i64 (c : Int), .slice A zs.length cap] 84))
  have t6 : zs.length ≤ 36 := by rw [hl]; exact Nat.le_trans (Nat.mul_le_mul hr hc) (by omega)
  clear hrv hr hc hs hl
  go_enter Tryz.func90, Tryz.ntmps90
  go_wp2_with fail
  refine (HSr.out _).mono ?_
  rintro e w1 ⟨rfl, rfl⟩
  go_wp2_with fail
  refine (HSc.out _).mono ?_
  rintro e w1 ⟨rfl, rfl⟩
  go_wp2_with fail
  clear t1 t2
  go_loopw [28] (fun kk wr => ∃ k : Nat, k ≤ zs.length ∧ kk = .int .i64 (k : Int) ∧ Hid (Below w.heap.size w wr)) (fun kk _ => zs.length - (intOf kk).toNat)
  case atStart => exact ⟨0, Nat.zero_le _, rfl, HB0.out⟩
  case round =>
    obtain ⟨k, hk, rfl, hb⟩ := hrel
    by_cases hlt : k < zs.length
    · obtain ⟨ad, S, rfl, hS, hcl⟩ := HRV.out wr hb.out k hlt
      have HC := Lib.hid (HCh.out wr k)
      rw [hS] at HC
      clear hS
      go_wp2_with fail
      refine HC.out.mono ?_
      rintro e w2 ⟨rfl, hb2⟩
      have HB2 := Lib.hid (hb.out.trans (hb2.mono hb.out.size))
      clear hb2
      go_wp2
      go_roundw
      case rel => exact ⟨k + 1, by omega, by go_num, HB2.out⟩
      case measure => simp [intOf]; omega
    · go_wp2
      go_ret
      exact ⟨rfl, hb.out⟩
theorem mat_any (v : Value) (r c i k : Nat) (zs : List Int) (w : World) (hv : ZM w v r c zs) (hr : r ≤ 6) (hc : c ≤ 6) (hi : i < r) (hk : k < c) :
    Calls Tryz.prog 126 #[v, .int .i64 (i : Int), .int .i64 (k : Int)] w fun e w' => e = .returned (zV (zs.getD (i * c + k) 0)) ∧ Below w.heap.size w w' := by
  obtain ⟨A, cap, rfl, hrv, hl⟩ := hv
  have hik : i * c + k < zs.length := by
    rw [hl]
    have h1 : (i + 1) * c ≤ r * c := Nat.mul_le_mul_right c (by omega)
    rw [Nat.succ_mul] at h1
    omega
  have hb0 := below_alloc w (.cells #[.int .i64 (r : Int), .int .i64 (c : Int), .slice A zs.length cap] 84)
  obtain ⟨ad, rfl, -, h5⟩ := (hrv.below hb0).cellz hik
  have hp : (i : Int) * (c : Int) = ((i * c : Nat) : Int) := by simp
  have hple : i * c ≤ 36 := Nat.le_trans (Nat.mul_le_mul (by omega : i ≤ 6) hc) (by omega)
  generalize i * c = p at *
  have hq : (p : Int) + (k : Int) = ((p + k : Nat) : Int) := by simp
  have hple2 : p + k ≤ 100 := by omega
  generalize p + k = q at *
  have w1 : wrap64 (p : Int) = (p : Int) := wrap64_small p (by omega)
  have w2 : wrap64 (q : Int) = (q : Int) := wrap64_small q (by omega)
  have hlt : (q : Int) < (zs.length : Int) := Int.ofNat_lt.2 hik
  have HB0 := Lib.hid hb0
  unfold zV at h5 ⊢
  generalize (⟨(Go.Lib.itoa (zs.getD q 0)).toArray⟩ : ByteArray) = S at *
  clear hrv hl hi hk hr hc hb0 hple hple2
  go_enter Tryz.func126, Tryz.ntmps126
  go_wp2
  go_ret
  exact ⟨rfl, HB0.out⟩
theorem there_any (v : Value) (r c i k : Nat) (zs : List Int) (w : World) (hv : ZM w v r c zs) (hr : r ≤ 6) (hc : c ≤ 6) (hs : Sml zs) (hi : i < r) (hk : k < c) :
    Calls Tryz.prog 122 #[v, .int .i64 (i : Int), .int .i64 (k : Int)] w fun e w' => e = .returned (.int .i64 0) ∧ Below w.heap.size w w' := by
  obtain ⟨A, cap, rfl, hrv, hl⟩ := hv
  have hb0 := below_alloc w (.cells #[.int .i64 (r : Int), .int .i64 (c : Int), .slice A zs.length cap] 84)
  have HC := Lib.hid (mcheck_any (.agg #[.int .i64 (r : Int), .int .i64 (c : Int), .slice A zs.length cap]) r c zs (w.alloc (.cells #[.int .i64 (r : Int), .int .i64 (c : Int), .slice A zs.length cap] 84)) ⟨A, cap, rfl, hrv.below hb0, hl⟩ hr hc hs)
  have hbl := BL.new' w #[.int .i64 (r : Int), .int .i64 (c : Int), .slice A zs.length cap] 84
  have t1 : ¬ (i : Int) < 0 := by omega
  have t2 : ¬ (k : Int) < 0 := by omega
  have t3 : (i : Int) < (r : Int) := by omega
  have t4 : (k : Int) < (c : Int) := by omega
  have HBL := Lib.hid hbl
  have HB0 := Lib.hid hb0
  clear hrv hl hr hc hs hi hk hb0 hbl
  go_enter Tryz.func122, Tryz.ntmps122
  go_wp2_with fail
  refine HC.out.mono ?_
  rintro e w2 ⟨rfl, hb2⟩
  have b2 := HBL.out.bel hb2
  have c0 := b2.cell 0
  have c1 := b2.cell 1
  have HB2 := Lib.hid (HB0.out.trans (hb2.mono HB0.out.size))
  clear b2 hb2
  go_wp2
  go_ret
  exact ⟨rfl, HB2.out⟩
end Go.Proofs.YtjfggodnfoknfaaGreatDoor

namespace Go.Proofs.YtjfggodnfoknfaaGreatDoor
open Go.RowKit
theorem skip_any (i : Nat) (w : World) (hi : i ≤ 6) : Calls Tryz.prog 123 #[.int .i64 (i : Int), .int .i64 0] w fun e w' => e = .returned (.int .i64 ((i + 1 : Nat) : Int)) ∧ w = w' := by
  have t1 : (0 : Int) ≤ (i : Int) := by omega
  have t2 : wrap64 ((i : Int) + 1) = (i : Int) + 1 := by rw [IntWalk.wrap64_in] <;> omega
  have t3 : ((i + 1 : Nat) : Int) = (i : Int) + 1 := by omega
  rw [t3]
  clear hi t3
  go_enter Tryz.func123, Tryz.ntmps123
  go_wp2
  go_ret
  exact ⟨congrArg (fun z => Ending.returned (.int .i64 z)) t2, rfl⟩
theorem minor2_any (b2 b3 b4 b5 n i k cap : Nat) (A : Option Addr) (zs : List Int) (w : World)
    (hm : BL w b2 84 [.int .i64 (n : Int), .int .i64 (n : Int), .slice A zs.length cap]) (hf : w.cell? ⟨b3, 0, none⟩ = some (.func (.func 123) #[] #[])) (h4 : w.cell? ⟨b4, 0, none⟩ = some (.int .i64 0)) (h5 : w.cell? ⟨b5, 0, none⟩ = some (.int .i64 0))
    (hz : ZM w (.agg #[.int .i64 (n : Int), .int .i64 (n : Int), .slice A zs.length cap]) n n zs) (hn : n ≤ 6) (hi : i + 1 < n) (hk : k + 1 < n) :
    Calls Tryz.prog 125 #[.int .i64 (i : Int), .int .i64 (k : Int), .pointer (some ⟨b2, 0, none⟩), .pointer (some ⟨b3, 0, none⟩), .pointer (some ⟨b4, 0, none⟩), .pointer (some ⟨b5, 0, none⟩)] w fun e w' => e = .returned (.tuple #[zV (zs.getD ((i + 1) * n + (k + 1)) 0), .int .i64 0]) ∧ Below w.heap.size w w' := by
  have HI : Hid (∀ W, Calls Tryz.prog 123 #[.int .i64 (i : Int), .int .i64 0] W fun e w' => e = .returned (.int .i64 ((i + 1 : Nat) : Int)) ∧ W = w') := fun W => skip_any i W (by omega)
  have HJ : Hid (∀ W, Calls Tryz.prog 123 #[.int .i64 (k : Int), .int .i64 0] W fun e w' => e = .returned (.int .i64 ((k + 1 : Nat) : Int)) ∧ W = w') := fun W => skip_any k W (by omega)
  have HA : Hid (∀ W, Below w.heap.size w W → Calls Tryz.prog 126 #[.agg #[.int .i64 (n : Int), .int .i64 (n : Int), .slice A zs.length cap], .int .i64 ((i + 1 : Nat) : Int), .int .i64 ((k + 1 : Nat) : Int)] W fun e w' => e = .returned (zV (zs.getD ((i + 1) * n + (k + 1)) 0)) ∧ Below W.heap.size W w') := fun W h => mat_any _ n n (i + 1) (k + 1) zs W (hz.below h) hn hn hi hk
  generalize zs.getD ((i + 1) * n + (k + 1)) 0 = z at *
  generalize i + 1 = i1 at *
  generalize k + 1 = k1 at *
  have HK : Hid (∀ W, Below w.heap.size w W → W.cell? ⟨b2, 0, none⟩ = some (.int .i64 (n : Int)) ∧ W.cell? ⟨b2, 1, none⟩ = some (.int .i64 (n : Int)) ∧ W.cell? ⟨b2, 2, none⟩ = some (.slice A zs.length cap) ∧ W.cell? ⟨b3, 0, none⟩ = some (.func (.func 123) #[] #[]) ∧ W.cell? ⟨b4, 0, none⟩ = some (.int .i64 0) ∧ W.cell? ⟨b5, 0, none⟩ = some (.int .i64 0) ∧ Below w.heap.size w W) := fun W h => by
    have hm2 := hm.bel h
    exact ⟨hm2.cell 0, hm2.cell 1, hm2.cell 2, (h.cell (World.block_lt_of_cell? _ _ hf)).trans hf, (h.cell (World.block_lt_of_cell? _ _ h4)).trans h4, (h.cell (World.block_lt_of_cell? _ _ h5)).trans h5, h⟩
  have HS0 := Lib.hid (HK.out w.drew (Below.refl _ _).drew)
  have HAt := Lib.hid (HA.out w.drew (Below.refl _ _).drew)
  unfold zV at *
  generalize (⟨(Go.Lib.itoa z).toArray⟩ : ByteArray) = S at *
  generalize zs.length = len at *
  clear hm hf h4 h5 hz hn hi hk
  go_enter Tryz.func125, Tryz.ntmps125
  go_wp2_with fail
  go_region_held3 (fun W : World => W.cell? ⟨b2, 0, none⟩ = some (.int .i64 (n : Int)) ∧ W.cell? ⟨b2, 1, none⟩ = some (.int .i64 (n : Int)) ∧ W.cell? ⟨b2, 2, none⟩ = some (.slice A len cap) ∧ W.cell? ⟨b3, 0, none⟩ = some (.func (.func 123) #[] #[]) ∧ W.cell? ⟨b4, 0, none⟩ = some (.int .i64 0) ∧ W.cell? ⟨b5, 0, none⟩ = some (.int .i64 0) ∧ Below w.heap.size w W)
    (first | exact HS0.out | exact HSa.out)
    (first
      | (go_at_call 123; (with_reducible refine (HI.out _).mono ?_); rintro e w6 ⟨rfl, rfl⟩)
      | (go_at_call 123; (with_reducible refine (HJ.out _).mono ?_); rintro e w6 ⟨rfl, rfl⟩)
      | (go_at_call 126; refine HAt.out.mono ?_; rintro e w7 ⟨rfl, hb7⟩; have HB7 := Lib.hid ((Below.refl w.heap.size w).drew.trans hb7); have HSa := Lib.hid (HK.out w7 HB7.out); clear hb7))
  all_goals
    go_wp2
    go_ret2
    exact ⟨rfl, HB7.out⟩
/-- The entries of the matrix without the first row and the first column. -/
def minL (m : Nat) (zs : List Int) : List Int := tabL (fun j => zs.getD ((j / m + 1) * (m + 1) + (j % m + 1)) 0) (m * m)
theorem minor_any (v : Value) (m : Nat) (zs : List Int) (w : World) (hv : ZM w v (m + 1) (m + 1) zs) (hm : m ≤ 5) (hs : Sml zs) :
    Calls Tryz.prog 89 #[v, .int .i64 0, .int .i64 0] w fun e w' => ∃ u, e = .returned (.tuple #[u, .int .i64 0]) ∧ ZM w' u m m (minL m zs) ∧ Below w.heap.size w w' := by
  obtain ⟨A, cap, rfl, hrv, hl⟩ := hv
  obtain ⟨W0, hW0⟩ : ∃ W0, W0 = (((w.alloc (.cells #[.int .i64 ((m + 1 : Nat) : Int), .int .i64 ((m + 1 : Nat) : Int), .slice A zs.length cap] 84)).alloc (.cells #[.int .i64 0] 3)).alloc (.cells #[.int .i64 0] 3)).alloc (.cells #[.int .i64 0, .int .i64 0, .slice none 0 0] 84) := ⟨_, rfl⟩
  have hs0 : W0.heap.size = w.heap.size + 4 := by rw [hW0]; simp
  have hb0 : Below w.heap.size w W0 := by rw [hW0]; go_grown
  have e3 : BL W0 w.heap.size 84 [.int .i64 ((m + 1 : Nat) : Int), .int .i64 ((m + 1 : Nat) : Int), .slice A zs.length cap] := by rw [hW0]; exact (((BL.new' w _ _).alloc _).alloc _).alloc _
  have e45 : BL W0 (w.heap.size + 1) 3 [.int .i64 0] ∧ BL W0 (w.heap.size + 2) 3 [.int .i64 0] ∧ BL W0 (w.heap.size + 3) 84 [.int .i64 0, .int .i64 0, .slice none 0 0] := by
    have h1 := BL.new' (w.alloc (.cells #[.int .i64 ((m + 1 : Nat) : Int), .int .i64 ((m + 1 : Nat) : Int), .slice A zs.length cap] 84)) #[.int .i64 0] 3
    have h2 := BL.new' ((w.alloc (.cells #[.int .i64 ((m + 1 : Nat) : Int), .int .i64 ((m + 1 : Nat) : Int), .slice A zs.length cap] 84)).alloc (.cells #[.int .i64 0] 3)) #[.int .i64 0] 3
    have h3 := BL.new' (((w.alloc (.cells #[.int .i64 ((m + 1 : Nat) : Int), .int .i64 ((m + 1 : Nat) : Int), .slice A zs.length cap] 84)).alloc (.cells #[.int .i64 0] 3)).alloc (.cells #[.int .i64 0] 3)) #[.int .i64 0, .int .i64 0, .slice none 0 0] 84
    simp only [World.size_alloc] at h1 h2 h3
    rw [hW0]; exact ⟨(h1.alloc _).alloc _, h2.alloc _, h3⟩
  obtain ⟨e4, e5, e6⟩ := e45
  have HTh := Lib.hid (there_any (.agg #[.int .i64 ((m + 1 : Nat) : Int), .int .i64 ((m + 1 : Nat) : Int), .slice A zs.length cap]) (m + 1) (m + 1) 0 0 zs W0 ⟨A, cap, rfl, hrv.below hb0, hl⟩ (by omega) (by omega) hs (by omega) (by omega))
  have HFi : Hid (∀ W, Below W0.heap.size W0 W → ∀ W3, W3 = W.alloc (.cells #[.func (.func 123) #[] #[]] 66) → Calls Tryz.prog 124 #[.int .i64 (m : Int), .int .i64 (m : Int), .func (.func 125) #[] #[.pointer (some ⟨w.heap.size, 0, none⟩), .pointer (some ⟨W.heap.size, 0, none⟩), .pointer (some ⟨w.heap.size + 1, 0, none⟩), .pointer (some ⟨w.heap.size + 2, 0, none⟩)]] W3 fun e w' => ∃ u, e = .returned (.tuple #[u, .int .i64 0]) ∧ ZM w' u m m (minL m zs) ∧ Below W3.heap.size W3 w') := fun W h W3 h3 => by
    have hb3 := below_alloc W (.cells #[.func (.func 123) #[] #[]] 66)
    rw [← h3] at hb3
    have hb03 := h.trans (hb3.mono h.size)
    refine filled_any m m 125 _ (fun i k => zs.getD ((i + 1) * (m + 1) + (k + 1)) 0) _ W3 ⟨enters_of Tryz.func125 (by kernel_rfl) rfl, fun W4 h4 i k hi hk => ?_⟩ (by omega) (by omega) (fun i k hi hk => ?_)
    · have ha := hb03.trans (h4.mono hb03.size)
      refine minor2_any w.heap.size W.heap.size (w.heap.size + 1) (w.heap.size + 2) (m + 1) i k cap A zs W4 (e3.bel ha) ?_ ((e4.bel ha).cell 0) ((e5.bel ha).cell 0) ⟨A, cap, rfl, (hrv.below hb0).below ha, hl⟩ (by omega) (by omega) (by omega)
      have : BL W3 W.heap.size 66 [.func (.func 123) #[] #[]] := by rw [h3]; exact BL.new' W _ _
      exact (this.bel h4).cell 0
    · show zs.getD (((i * m + k) / m + 1) * (m + 1) + ((i * m + k) % m + 1)) 0 = _
      have h1 : (i * m + k) / m = i := by rw [Nat.mul_comm, Nat.mul_add_div (by omega), Nat.div_eq_of_lt hk]; rfl
      have h2 : (i * m + k) % m = k := by rw [Nat.mul_comm, Nat.mul_add_mod, Nat.mod_eq_of_lt hk]
      rw [h1, h2]
  have t1 : ((m + 1 : Nat) : Int) - 1 = (m : Int) := by omega
  have t2 : wrap64 (m : Int) = (m : Int) := wrap64_small m (by omega)
  have HE3 := Lib.hid e3
  have HE4 := Lib.hid e4
  have HE5 := Lib.hid e5
  have HE6 := Lib.hid e6
  have HB0 := Lib.hid hb0
  have HN := Lib.hid hs0
  have HW0 := Lib.hid hW0
  generalize ((m + 1 : Nat) : Int) = n1 at *
  clear hrv hl hs hW0 hs0 hb0 e3 e4 e5 e6 hm
  go_enter Tryz.func89, Tryz.ntmps89
  go_wp2_with fail
  rw [← HW0.out]
  have k30 := HE3.out.cell 0
  have k31 := HE3.out.cell 1
  have k32 := HE3.out.cell 2
  have k4 := HE4.out.cell 0
  have k5 := HE5.out.cell 0
  go_wp2_with fail
  refine HTh.out.mono ?_
  rintro e w1 ⟨rfl, hb1⟩
  have b3 := HE3.out.bel hb1
  have j0 : (w1.alloc (.cells #[.func (.func 123) #[] #[]] 66)).cell? ⟨w.heap.size, 0, none⟩ = some (.int .i64 n1) := (b3.alloc _).cell 0
  have j1 : (w1.alloc (.cells #[.func (.func 123) #[] #[]] 66)).cell? ⟨w.heap.size, 1, none⟩ = some (.int .i64 n1) := (b3.alloc _).cell 1
  obtain ⟨W3, hW3⟩ : ∃ W3, W3 = w1.alloc (.cells #[.func (.func 123) #[] #[]] 66) := ⟨_, rfl⟩
  have HF := Lib.hid (HFi.out w1 hb1 W3 hW3)
  have HB1 := Lib.hid hb1
  have HW3 := Lib.hid hW3
  clear k30 k31 k32 k4 k5 b3 hb1 hW3
  go_wp2_with fail
  rw [← HW3.out]
  refine HF.out.mono ?_
  rintro e w2 ⟨u, rfl, ⟨A9, cap9, rfl, hr9, hl9⟩, hb2⟩
  have hb13 := below_alloc w1 (.cells #[.func (.func 123) #[] #[]] 66)
  rw [← HW3.out] at hb13
  have hb02 := (HB1.out.trans (hb13.mono HB1.out.size)).trans (hb2.mono (Nat.le_trans HB1.out.size hb13.size))
  have e6 := HE6.out.bel hb02
  have y0 := e6.cell 0
  have y1 := e6.cell 1
  have y2 := e6.cell 2
  have z0 := e6.frozen 0
  have z1 := e6.frozen 1
  have z2 := e6.frozen 2
  have H6 := Lib.hid e6
  have HR9 := Lib.hid hr9
  have HL9 := Lib.hid hl9
  have HB2 := Lib.hid (HB0.out.trans (hb02.mono HB0.out.size))
  clear e6 hr9 hb2 hl9 hb13 hb02
  go_wp2_with fail
  refine bodyPost_ret (results_row_tmpN rfl _ _ (w.heap.size + 3) 84 #[.int .i64 (m : Int), .int .i64 (m : Int), .slice A9 (minL m zs).length cap9] (0, 0) _ rfl (((H6.out.set 0 _).set 1 _).set 2 _) Tryz.underlying84 rfl zmat_size) rfl ?_
  refine ⟨_, rfl, ⟨A9, cap9, rfl, ?_, HL9.out⟩, ((HB2.out.setCell (p := ⟨w.heap.size + 3, 0, none⟩) (by simp) _).setCell (p := ⟨w.heap.size + 3, 1, none⟩) (by simp) _).setCell (p := ⟨w.heap.size + 3, 2, none⟩) (by simp) _⟩
  exact ((HR9.out.box3 H6.out (.int .i64 (m : Int)) 0).box3 (H6.out.set 0 _) (.int .i64 (m : Int)) 1).box3 ((H6.out.set 0 _).set 1 _) (.slice A9 (minL m zs).length cap9) 2
end Go.Proofs.YtjfggodnfoknfaaGreatDoor

