/- Contracts of package connect: grown, joined. -/
import Derived.Test.YteamhbohgoclgaaGreatDoorR02
import Derived.Deep.MidRow
import Derived.Deep.RegionLaw
set_option maxRecDepth 100000
set_option maxHeartbeats 16000000
namespace Go.Proofs.YteamhbohgoclgaaGreatDoor
open Go.RowKit

theorem BL.setCells {w : World} {b : Nat} {T : TypeId} {us : List Value} (h : BL w b T us) (vs : List Value) (o : Nat) (hl : o + vs.length = us.length) : BL (w.setCells b o vs) b T (us.take o ++ vs) := by
 induction vs generalizing w us o with
 | nil => simp at hl; subst hl; simpa [World.setCells] using h
 | cons v r ih =>
   simp only [List.length_cons] at hl
   have := ih (h.set o v) (o + 1) (by simp; omega)
   simp only [World.setCells]
   have e : (us.set o v).take (o + 1) = us.take o ++ [v] := by
     rw [List.take_succ_eq_append_getElem (by simp; omega), List.take_set_of_le (Nat.le_refl _)]
     simp
   rw [e] at this
   simpa using this
theorem below_setCells {B b : Nat} {w0 w : World} (h : Below B w0 w) (hB : B <= b) (vs : List Value) (o : Nat) : Below B w0 (w.setCells b o vs) := by
 induction vs generalizing w o with
 | nil => exact h
 | cons v r ih => exact ih (h.setCell (p := ⟨b, o, none⟩) hB v) (o + 1)
theorem BL.there {w : World} {b : Nat} {T : TypeId} {us : List Value} (h : BL w b T us) : w.there b 0 us.length := fun j hj =>
 ⟨by rw [Nat.zero_add, h.cell, List.getElem?_eq_getElem hj]; rfl, h.frozen _⟩
theorem BL.setCells_other {w : World} {b c : Nat} {T : TypeId} {us : List Value} (h : BL w b T us) (hne : b ≠ c) (vs : List Value) (o : Nat) : BL (w.setCells c o vs) b T us := by
 induction vs generalizing w o with
 | nil => exact h
 | cons v r ih => exact ih (h.set_other (a := ⟨c, o, none⟩) hne v) (o + 1)
theorem nvL_one (f : List Nat) : ∀ v ∈ nvL f, v.oneCell' = true := by
 intro v hv; obtain ⟨z, _, rfl⟩ := List.mem_map.1 hv; rfl
theorem fo_info : (Tryz.prog.info? 203).map (·.size) = some 12 := by kernel_rfl
theorem fo_size {f : List Nat} (h : f.length = 12) : (Tryz.prog.info? 203).map (·.size) = some (nvL f).toArray.size := by
 rw [fo_info]; simp [nvL, h]
def partG (k : Nat) : List Nat := List.range k ++ List.replicate (12 - k) 0
theorem partG_set : ∀ k, k < 12 -> (partG k).set k k = partG (k + 1) := by decide
theorem grown_any (w : World) : Calls Tryz.prog 193 #[] w fun e w' => e = .returned (.agg (nvL grownF).toArray) /\ Below w.heap.size w w' := by
 go_enter Tryz.func193, Tryz.ntmps193
 go_wp2
 go_loopw [3] (fun i wr => ∃ k : Nat, k <= 12 /\ i = .int .i64 k /\ Hid (BL wr w.heap.size 203 (nvL (partG 0))) /\ Hid (BL wr (w.heap.size + 1) 203 (nvL (partG k))) /\ Hid (Below w.heap.size w wr)) (fun i _ => 12 - (intOf i).toNat)
 case atStart =>
   refine ⟨0, by omega, rfl, ?_, ?_, (below_alloc w _).alloc (by simp) _⟩
   · exact (BL.new' w _ _).alloc _
   · have := BL.new' (w.alloc (.cells (nvL (partG 0)).toArray 203)) (nvL (partG 0)).toArray 203
     simp only [World.size_alloc] at this
     exact this
 case round =>
   obtain ⟨k, hk, rfl, h0, h1, hb⟩ := hrel
   by_cases hlt : k < 12
   · have hl : (partG k).length = 12 := by simp [partG]; omega
     have hc := (h1.out.cell k).trans (nvL_get (by rw [hl]; exact hlt))
     have hf := h1.out.frozen k
     have hs := Hd (h1.out.set k (.int .i64 (k : Nat)))
     rw [nvL_set, partG_set k hlt] at hs
     go_wp2
     go_roundw
     case rel => exact ⟨k + 1, by omega, by go_num, h0.out.set_other (by simp) _, hs.out, hb.out.setCell (p := ⟨w.heap.size + 1, k, none⟩) (by simp) _⟩
     case measure => simp [intOf]; omega
   · obtain rfl : k = 12 := by omega
     have hg : partG 12 = grownF := by decide
     rw [hg] at h1
     have hth := Hd h0.out.there
     have hz := Hd ((h0.out.setCells (nvL grownF) 0 (by simp [nvL, grownF, partG])))
     have hb2 := Hd (below_setCells (b := w.heap.size) hb.out (Nat.le_refl _) (nvL grownF) 0)
     clear h0 hg
     go_wp2_with (first
       | (refine wpList_load_row rfl 203 _ rfl (w.heap.size + 1) rfl 203 _ (0, 0) _ h1.out Tryz.underlying203 rfl (fo_size (by decide)) ?_)
       | (refine wpList_store_mid rfl 203 _ _ rfl w.heap.size 0 (nvL grownF).toArray rfl rfl hth.out (fo_size (by decide)) (all_oneCell_toArray (nvL_one _)) ?_))
     refine bodyPost_ret (results_cell_row rfl _ _ w.heap.size 203 (nvL grownF).toArray (0, 0) _ rfl hz.out Tryz.underlying203 rfl (fo_size (by decide))) rfl ⟨rfl, hb2.out⟩

theorem joinAll_snoc (f : List Nat) (es : List Tri) (t : Tri) : joinAll f (es ++ [t]) = joinF (joinAll f es) t.1.toNat t.2.1.toNat := by simp [joinAll]
theorem joinAll_fo {f : List Nat} (hf : Fo f) {es : List Tri} (he : Ends 12 es) : Fo (joinAll f es) := by
 induction es generalizing f with
 | nil => exact hf
 | cons t r ih =>
   have := he t (List.mem_cons_self ..)
   exact ih (joinF_fo hf (by omega) (by omega)) he.tail
theorem ends_take {n : Nat} {es : List Tri} (h : Ends n es) (k : Nat) : Ends n (es.take k) := fun t ht => h t (List.mem_of_mem_take ht)
theorem ends_mono {n m : Nat} {es : List Tri} (h : Ends n es) (hm : n <= m) : Ends m es := fun t ht => by have := h t ht; omega
theorem take_tri {es : List Tri} {k : Nat} {t : Tri} (h : Hid (es[k]? = some t)) : es.take (k + 1) = es.take k ++ [t] := by
 obtain ⟨hk, rfl⟩ := List.getElem?_eq_some_iff.1 h.out
 exact List.take_succ_eq_append_getElem hk
theorem joined_any (g : Value) (n : Int) (es : List Tri) (w : World) (hg : GV w g n es) (he : Ends 12 es) :
   Calls Tryz.prog 141 #[g] w fun e w' => e = .returned (.agg (nvL (joinAll grownF es)).toArray) /\ Below w.heap.size w w' := by
 obtain ⟨A, c, rfl, hlc, hc, hcell⟩ := hg.open_
 have HC := Hd hcell
 have HEn := Hd he
 clear hcell hg he
 go_enter Tryz.func141, Tryz.ntmps141
 go_wp2_with fail
 refine (grown_any _).mono ?_
 rintro e w1 ⟨rfl, hb⟩
 have hz := hb.size
 simp only [World.size_alloc] at hz
 have hB1 : Hid (Below w.heap.size w w1) := ((below_alloc w _).alloc (by simp) _).trans (hb.mono (by simp; omega))
 have hcell1 : w1.cell? ⟨w.heap.size, 1, none⟩ = some (.slice A es.length c) := (hb.cell (p := ⟨w.heap.size, 1, none⟩) (by simp; omega)).trans ((World.cell?_alloc_lt _ _ _ (by simp)).trans (cell_lit rfl))
 have hres : Hid (BL w1 (w.heap.size + 1) 203 (nvL (partG 0))) := by
   have := BL.new' (w.alloc (.cells #[.int .i64 n, .slice A es.length c] 25)) (nvL (partG 0)).toArray 203
   simp only [World.size_alloc] at this
   exact this.below hb (by simp)
 have hn := BL.new' w1 #[Value.int IntKind.i64 0, Value.int IntKind.i64 0, Value.int IntKind.i64 0, Value.int IntKind.i64 0, Value.int IntKind.i64 0, Value.int IntKind.i64 0, Value.int IntKind.i64 0, Value.int IntKind.i64 0, Value.int IntKind.i64 0, Value.int IntKind.i64 0, Value.int IntKind.i64 0, Value.int IntKind.i64 0] 203
 have hth := Hd hn.there
 have hfo : Hid (BL ((w1.alloc (.cells #[Value.int IntKind.i64 0, Value.int IntKind.i64 0, Value.int IntKind.i64 0, Value.int IntKind.i64 0, Value.int IntKind.i64 0, Value.int IntKind.i64 0, Value.int IntKind.i64 0, Value.int IntKind.i64 0, Value.int IntKind.i64 0, Value.int IntKind.i64 0, Value.int IntKind.i64 0, Value.int IntKind.i64 0] 203)).setCells w1.heap.size 0 (nvL grownF)) w1.heap.size 203 (nvL grownF)) := by
   have := hn.setCells (nvL grownF) 0 (by decide)
   show BL _ _ _ _
   simpa using this
 have hB2 : Hid (Below w.heap.size w ((w1.alloc (.cells #[Value.int IntKind.i64 0, Value.int IntKind.i64 0, Value.int IntKind.i64 0, Value.int IntKind.i64 0, Value.int IntKind.i64 0, Value.int IntKind.i64 0, Value.int IntKind.i64 0, Value.int IntKind.i64 0, Value.int IntKind.i64 0, Value.int IntKind.i64 0, Value.int IntKind.i64 0, Value.int IntKind.i64 0] 203)).setCells w1.heap.size 0 (nvL grownF))) := below_setCells (hB1.out.alloc (by omega) _) (by omega) _ _
 have hres2 : Hid (BL ((w1.alloc (.cells #[Value.int IntKind.i64 0, Value.int IntKind.i64 0, Value.int IntKind.i64 0, Value.int IntKind.i64 0, Value.int IntKind.i64 0, Value.int IntKind.i64 0, Value.int IntKind.i64 0, Value.int IntKind.i64 0, Value.int IntKind.i64 0, Value.int IntKind.i64 0, Value.int IntKind.i64 0, Value.int IntKind.i64 0] 203)).setCells w1.heap.size 0 (nvL grownF)) (w.heap.size + 1) 203 (nvL (partG 0))) := (hres.out.alloc _).setCells_other (by omega) _ _
 have hcell2 : ((w1.alloc (.cells #[Value.int IntKind.i64 0, Value.int IntKind.i64 0, Value.int IntKind.i64 0, Value.int IntKind.i64 0, Value.int IntKind.i64 0, Value.int IntKind.i64 0, Value.int IntKind.i64 0, Value.int IntKind.i64 0, Value.int IntKind.i64 0, Value.int IntKind.i64 0, Value.int IntKind.i64 0, Value.int IntKind.i64 0] 203)).setCells w1.heap.size 0 (nvL grownF)).cell? ⟨w.heap.size, 1, none⟩ = some (.slice A es.length c) := by
   rw [World.cell?_setCells_out _ _ _ _ _ (fun h => by simp at h; omega)]
   exact (World.cell?_alloc_lt _ _ _ (by simp; omega)).trans hcell1
 clear hb hcell1 hn hres hB1
 go_wp2_with (refine wpList_store_mid rfl 203 _ _ rfl w1.heap.size 0 (nvL grownF).toArray rfl rfl hth.out (fo_size (by decide)) (all_oneCell_toArray (nvL_one _)) ?_; generalize (w1.alloc (.cells #[Value.int IntKind.i64 0, Value.int IntKind.i64 0, Value.int IntKind.i64 0, Value.int IntKind.i64 0, Value.int IntKind.i64 0, Value.int IntKind.i64 0, Value.int IntKind.i64 0, Value.int IntKind.i64 0, Value.int IntKind.i64 0, Value.int IntKind.i64 0, Value.int IntKind.i64 0, Value.int IntKind.i64 0] 203)).setCells w1.heap.size 0 (nvL grownF).toArray.toList = W at *)
 have HCel := Hd hcell2
 clear hcell2
 have hw1 : w.heap.size + 2 <= w1.heap.size := by omega
 go_loopw [10] (fun i wr => ∃ k : Nat, k <= es.length /\ i = .int .i64 k /\ Hid (BL wr w1.heap.size 203 (nvL (joinAll grownF (es.take k)))) /\ Hid (BL wr (w.heap.size + 1) 203 (nvL (partG 0))) /\ Hid (Below w.heap.size w wr)) (fun i _ => es.length - (intOf i).toNat)
 case atStart => exact ⟨0, Nat.zero_le _, rfl, hfo, hres2, hB2⟩
 case round =>
   obtain ⟨k, hk, rfl, hbl, hre, hbel⟩ := hrel
   have hlt1 := hbl.out.lt
   by_cases hlt : k < es.length
   · obtain ⟨ad, a, b, m, rfl, hab, ht, c1, c2, c3⟩ := HC.out k hlt
     obtain ⟨d1, d2, d3⟩ := tri_cells hbel.out hab c1 c2 c3
     have hen := HEn.out _ (List.mem_of_getElem? ht.out)
     simp only at hen
     obtain ⟨x, rfl⟩ := Int.eq_ofNat_of_zero_le hen.1
     obtain ⟨y, rfl⟩ := Int.eq_ofNat_of_zero_le hen.2.2.1
     have hx : x < 12 := by omega
     have hy : y < 12 := by omega
     have HJ := Hd (join_any _ w1.heap.size x y _ _ (joinAll_fo grown_fo (ends_take HEn.out k)) hx hy (hbl.out.alloc (.cells #[.int .i64 x, .int .i64 y, .int .i64 m] 68)))
     have HS : Hid (joinF (joinAll grownF (es.take k)) x y = joinAll grownF (es.take (k + 1))) := by
       show _ = _; rw [take_tri ht, joinAll_snoc]; simp
     clear c1 c2 c3 HC ht hen
     go_wp2_with fail
     refine HJ.out.mono ?_
     rintro e w' ⟨⟨v, rfl⟩, hj, hb⟩
     rw [HS.out] at hj
     have HB := Hd hb
     have HJ2 := Hd hj
     clear hb hj
     go_wp2
     go_roundw
     case rel => exact ⟨k + 1, by omega, by go_num, HJ2.out, (hre.out.alloc _).below HB.out (by omega), (hbel.out.alloc (by omega) _).trans (HB.out.mono (by omega))⟩
     case measure => simp [intOf]; omega
   · have hke : es.take k = es := List.take_of_length_le (by omega)
     rw [hke] at hbl
     have hth2 := Hd hre.out.there
     have hlen : (joinAll grownF es).length = 12 := (joinAll_fo grown_fo HEn.out).1
     have hz2 := Hd (hre.out.setCells (nvL (joinAll grownF es)) 0 (by simp [nvL, hlen, partG]))
     have HLn := Hd hlen
     clear hke hlen
     go_wp2_with (first
       | (refine wpList_load_row rfl 203 _ rfl w1.heap.size rfl 203 _ (0, 0) _ hbl.out Tryz.underlying203 rfl (fo_size HLn.out) ?_)
       | (refine wpList_store_mid rfl 203 _ _ rfl (w.heap.size + 1) 0 (nvL (joinAll grownF es)).toArray rfl rfl (by have := hth2.out; simpa [nvL, HLn.out, partG] using this) (fo_size HLn.out) (all_oneCell_toArray (nvL_one _)) ?_))
     refine bodyPost_ret (results_cell_row rfl _ _ (w.heap.size + 1) 203 (nvL (joinAll grownF es)).toArray (0, 0) _ rfl hz2.out Tryz.underlying203 rfl (fo_size HLn.out)) rfl ⟨rfl, below_setCells hbel.out (by omega) _ _⟩
open Go.RowKit Go.Maps

theorem OV.shape_ {w : World} {B : Nat} {e : TypeId} {v : Value} {us : List Value} (h : OV w B e v us) (hl : 1 <= us.length) : ∃ g cap, v = .slice (some ⟨g, 0, none⟩) us.length cap := by
 rcases h.1.2 with ⟨_, hn⟩ | ⟨g, cap, cur, rfl, hg, hh, _⟩
 · omega
 · exact ⟨g, cap, rfl⟩
section
variable {P : Program} (w : World)
theorem step_appendV {ops : Array Oper} {o : Oper} {a : Act} {K : Act -> World -> Prop} {Q : Exit -> Act -> World -> Prop} {E : Prop} (hgd : o.guard = none) (s x : Operand) (t : TypeId)
   (ho : o.op = .call { callee := .builtin .append, args := #[s, x], argTypes := #[t, t] })
   (e : TypeId) (i : TypeInfo) (z : Value) (bytes : Nat) (ht : P.underlying t = some (.slice e)) (hi : P.info? e = some i) (hz : i.zero = some z)
   (hsize : i.size = 1) (hby : i.bytes = bytes) (hzs : z.cells.size = 1) (B : Nat) (v : Value) (us : List Value) (hs : a.eval s = v) (hown : OV w B e v us)
   (vx : Value) (news : List Value) (hx : a.eval x = vx) (hr : RV w vx news) (hn : 1 <= news.length)
   (h1 : ∀ u ∈ news, u.oneCell' = true) (hb1 : us.length + news.length <= 17592186044415) (hb2 : (us.length + news.length) * bytes <= 140737488355328) (hB : B <= w.heap.size)
   (h : ∀ g cap w', OV w' B e (.slice (some ⟨g, 0, none⟩) (us.length + news.length) cap) (us ++ news) -> w.grownBy w' v.ownBlock -> ((Value.slice (some ⟨g, 0, none⟩) (us.length + news.length) cap).ownBlock = v.ownBlock \/ (Value.slice (some ⟨g, 0, none⟩) (us.length + news.length) cap).ownBlock = some w.heap.size) -> K (a.put o.dst (.slice (some ⟨g, 0, none⟩) (us.length + news.length) cap)) w') :
   if Region.wanted o (yielded ops a.tmps) = true then Oper.wp P o a w K Q else E := by
 have hw : Region.wanted o (yielded ops a.tmps) = true := by simp [Region.wanted, hgd]
 rw [if_pos hw]
 obtain ⟨v', w', hrun, h2, h3, h4⟩ := run_appendV (P := P) w t o.type e i z bytes ht hi hz hsize hby hzs B v us hown vx news hr h1 hb1 hb2 hB
 obtain ⟨g, cap, rfl⟩ := OV.shape_ h2 (by simp; omega)
 rw [List.length_append] at hrun h2 h4
 unfold Oper.wp execOp
 simp only [ho, resolve, invoke, builtin, Sem.run_bind, Sem.run_pure, Result.andThen_ok, List.map_toArray, List.map_cons, List.map_nil, hs, hx, hrun]
 exact h g cap w' h2 h3 h4
end
theorem law_int : Keyed Tryz.prog 3 := int_keyed Tryz.underlying3
theorem zero_int (w : World) : (zeroValue 3).run Tryz.prog w = .ok (.int .i64 0) w := by kernel_rfl
theorem row_info : (Tryz.prog.info? 37).map (fun i => (i.zero, i.size, i.bytes)) = some (some (.slice none 0 0), 1, 24) := by kernel_rfl
theorem wf_nat {k : Nat} (h : k < 1000) : (Lit.int .i64 (k : Int)).wf = true := by
 have h1 : IntKind.i64.min = -9223372036854775808 := by decide
 have h2 : IntKind.i64.max = 9223372036854775807 := by decide
 simp only [Lit.wf, h1, h2, Bool.and_eq_true, decide_eq_true_eq]
 omega
def PartsR (f : List Nat) (B bm k m : Nat) (v : Value) (wr : World) : Prop :=
 ∃ (us : List Value) (D : DataW Unit), OV wr B 37 v us /\ us.length = partsN m f /\ B <= bm /\ wr.ownsMap Tryz.prog 3 (plainElem Tryz.prog 3) bm m D /\ IsMap D /\
   (∀ r, r < m -> f.getD r r = r -> ∃ i, i < us.length /\ D.atKey (.int .i64 r) (.lit (.int .i64 0)) = .lit (.int .i64 (i : Nat))) /\
   (∀ (j : Nat) (u : Value), us[j]? = some u -> ∃ zs, OI wr B u zs /\ zs.length <= k) /\
   (∀ (i j : Nat) (u u' : Value), us[i]? = some u -> us[j]? = some u' -> i ≠ j -> u.ownBlock = none \/ u.ownBlock ≠ u'.ownBlock)
theorem OV.block_ {w : World} {B : Nat} {e : TypeId} {v : Value} {us : List Value} (h : OV w B e v us) {g : Nat} (hg : v.ownBlock = some g) : ∃ cur, w.heap[g]? = some (.cells cur e (0, 0)) /\ B <= g /\ g < w.heap.size := by
 rcases h.1.2 with ⟨rfl, _⟩ | ⟨g', cap, cur, rfl, hB, hh, _⟩
 · simp [Value.ownBlock] at hg
 · simp only [Value.ownBlock, Option.some.injEq] at hg
   subst hg
   exact ⟨cur, hh, hB, lt_of_block hh⟩
theorem OV.apart {w : World} {B B' : Nat} {e e' : TypeId} {v v' : Value} {us us' : List Value} (h : OV w B e v us) (h' : OV w B' e' v' us') (he : e ≠ e') : v.ownBlock = none \/ v.ownBlock ≠ v'.ownBlock := by
 cases hv : v.ownBlock with
 | none => exact .inl rfl
 | some g =>
   right
   intro heq
   obtain ⟨c, hc, _⟩ := h.block_ hv
   obtain ⟨c', hc', _⟩ := h'.block_ heq.symm
   rw [hc] at hc'
   simp only [Option.some.injEq, Obj.cells.injEq] at hc'
   exact he hc'.2.1
theorem OV.off_map {w : World} {B : Nat} {e : TypeId} {v : Value} {us : List Value} (h : OV w B e v us) {P : Program} {t : TypeId} {R : Value -> Option (DataW Unit × List MemPlace)} {b n : Nat} {D : DataW Unit} (hm : w.ownsMap P t R b n D) : v.ownBlock ≠ some b := by
 intro hv
 obtain ⟨c, hc, _⟩ := h.block_ hv
 obtain ⟨es, cl, hb, _⟩ := hm
 rw [hc] at hb; cases hb
theorem OV.kept' {w w' : World} {B : Nat} {e : TypeId} {v : Value} {us : List Value} {row : Option Nat} (h : OV w B e v us) (hg : w.grownBy w' row) (hne : v.ownBlock = none \/ v.ownBlock ≠ row) : OV w' B e v us :=
 ⟨h.1.kept hg hne, h.2⟩
theorem OV.at_ {w : World} {B : Nat} {e : TypeId} {v : Value} {us : List Value} (h : OV w B e v us) {k : Nat} {u : Value} (hk : us[k]? = some u) :
   ∃ g cap, v = .slice (some ⟨g, 0, none⟩) us.length cap /\ B <= g /\ g < w.heap.size /\ w.cell? ⟨g, k, none⟩ = some u /\ w.frozen? ⟨g, k, none⟩ = false /\
     ∀ x : Value, OV (w.setCell ⟨g, k, none⟩ x) B e (.slice (some ⟨g, 0, none⟩) us.length cap) (us.set k x) /\ w.grownBy (w.setCell ⟨g, k, none⟩ x) (some g) := by
 have hkl := (List.getElem?_eq_some_iff.1 hk).1
 obtain ⟨h1, h2⟩ := h
 rcases h1.2 with ⟨_, hn⟩ | ⟨g, cap, cur, rfl, hg, hh, hn, hm, hs, ht⟩
 · omega
 · refine ⟨g, cap, rfl, hg, lt_of_block hh, ?_, h1.frozenAt k, fun x => ?_⟩
   · rw [h1.cellAt k (by omega), hk]
   · have := h1.stored k x
     exact ⟨⟨by rw [List.length_set]; exact this.1, by simpa using h2⟩, this.2⟩
theorem PartsR.draw {f : List Nat} {B bm k m : Nat} {v : Value} {wr : World} (h : PartsR f B bm k m v wr) : PartsR f B bm k m v wr.drew := by
 obtain ⟨us, D, h1, h2, h3, h4, h5, h6, h7, h8⟩ := h
 exact ⟨us, D, h1, h2, h3, h4, h5, h6, h7, h8⟩
theorem parts_step {f : List Nat} {B bm k : Nat} {v : Value} {wr : World} (h : PartsR f B bm k (k + 1) v wr) {r : Nat} (hr : r < k + 1) (hf : f.getD r r = r) (hk : k < 12) :
   ∃ i n g cap u zs, v = .slice (some ⟨g, 0, none⟩) n cap /\ i < n /\ n <= 12 /\ B <= g /\
     (∀ W : World, wr.grownBy W u.ownBlock -> (Instr.lookup 274 (.map (some bm)) (.int .i64 r) false).run Tryz.prog W = .ok (.int .i64 (i : Nat)) W) /\ wr.cell? ⟨g, i, none⟩ = some u /\ OI wr B u zs /\ zs.length <= k /\
     ∀ (x : Value) (u' : Value) (w1 : World), OV w1 B 3 u' (zs.map (Value.int .i64) ++ [.int .i64 (k : Nat)]) -> (wr.alloc (.cells #[x] 3)).grownBy w1 u.ownBlock -> (u'.ownBlock = u.ownBlock \/ u'.ownBlock = some (wr.heap.size + 1)) ->
       w1.cell? ⟨g, i, none⟩ = some u /\ w1.frozen? ⟨g, i, none⟩ = false /\ PartsR f B bm (k + 1) (k + 1) v (w1.setCell ⟨g, i, none⟩ u') := by
 obtain ⟨us, D, hv, hlen, hbm, hmap, hD, hroot, hrow, hdis⟩ := h
 obtain ⟨i, hi, hat⟩ := hroot r hr hf
 obtain ⟨u, hu⟩ : ∃ u, us[i]? = some u := ⟨_, List.getElem?_eq_getElem hi⟩
 obtain ⟨zs, hz, hzl⟩ := hrow i u hu
 obtain ⟨g, cap, rfl, hg, hgl, hc, hfz, hst⟩ := hv.at_ hu
 have hle : partsN (k + 1) f <= k + 1 := countN_le _ _
 have hrun : ∀ W : World, wr.grownBy W u.ownBlock -> (Instr.lookup 274 (.map (some bm)) (.int .i64 r) false).run Tryz.prog W = .ok (.int .i64 (i : Nat)) W := fun W hW => by
   have hmW := hmap.kept hW (fun e => OV.off_map hz hmap e.symm)
   obtain ⟨c, hrun, hc2, _⟩ := hmW.lookup_int law_int Tryz.underlying274 Tryz.underlying3 (zero_int W) (keyOf_int_mk Tryz.underlying3 (wf_nat (k := r) (by omega)))
   rw [hat] at hc2
   have hci : c = (i : Nat) := by simp only [DataW.lit.injEq, Lit.int.injEq, true_and] at hc2; exact hc2.symm
   rw [hci] at hrun
   exact hrun
 refine ⟨i, us.length, g, cap, u, zs, rfl, hi, by omega, hg, hrun, hc, hz, hzl, fun x u' w1 hown hgr hat' => ?_⟩
 have hga : wr.grownBy (wr.alloc (.cells #[x] 3)) u.ownBlock := World.grownBy_alloc wr _ _
 have hgr' : wr.grownBy w1 u.ownBlock := hga.trans hgr
 have hvu := hv.apart hz (by decide)
 have hv1 := hv.kept' hgr' hvu
 obtain ⟨g', cap', he, _, _, hc1, hf1, hst1⟩ := hv1.at_ hu
 simp only [Value.slice.injEq, Option.some.injEq, Addr.mk.injEq, and_true, true_and] at he
 obtain ⟨rfl, rfl⟩ := he
 have hm1 : w1.ownsMap Tryz.prog 3 (plainElem Tryz.prog 3) bm (k + 1) D := hmap.kept hgr' (fun e => OV.off_map hz hmap e.symm)
 have hu'g : u'.ownBlock ≠ some g := by
   intro e
   obtain ⟨cc, hh, _⟩ := hown.block_ e
   obtain ⟨cc', hh', _⟩ := hv1.block_ (g := g) rfl
   rw [hh] at hh'
   simp only [Option.some.injEq, Obj.cells.injEq] at hh'
   exact absurd hh'.2.1 (by decide)
 refine ⟨hc1, hf1, us.set i u', D, (hst1 u').1, by rw [List.length_set]; exact hlen, hbm, hm1.kept (hst1 u').2 (fun e => OV.off_map hv1 hm1 e.symm), hD, fun r' h1 h2 => by rw [List.length_set]; exact hroot r' h1 h2, ?_, ?_⟩
 · intro j y hy
   rw [List.getElem?_set] at hy
   by_cases e : i = j
   · rw [if_pos e, if_pos hi] at hy
     obtain rfl := Option.some.inj hy
     refine ⟨zs ++ [(k : Int)], ?_, by simp; omega⟩
     have : OV w1 B 3 u' ((zs ++ [(k : Int)]).map (Value.int .i64)) := by simpa using hown
     exact this.kept' (hst1 u').2 (.inr hu'g)
   · rw [if_neg e] at hy
     obtain ⟨zs', hz', hl'⟩ := hrow j y hy
     exact ⟨zs', (hz'.kept' hgr' (hdis j i y u hy hu (fun h => e h.symm))).kept' (hst1 u').2 (hz'.apart hv (by decide)), by omega⟩
 · intro a b y y' hy hy' hab
   rw [List.getElem?_set] at hy hy'
   have hlt : ∀ (j : Nat) (y : Value), us[j]? = some y -> ∀ b, y.ownBlock = some b -> b < wr.heap.size := fun j y hy b hb => by
     obtain ⟨zs', hz', _⟩ := hrow j y hy
     obtain ⟨_, _, _, h⟩ := hz'.block_ hb
     exact h
   by_cases e1 : i = a
   · by_cases e2 : i = b
     · omega
     · rw [if_pos e1, if_pos hi] at hy
       rw [if_neg e2] at hy'
       obtain rfl := Option.some.inj hy
       rcases hat' with h | h
       · rw [h]; exact hdis i b u y' hu hy' e2
       · right
         rw [h]
         intro e
         have := hlt b y' hy' _ e.symm
         omega
   · rw [if_neg e1] at hy
     by_cases e2 : i = b
     · rw [if_pos e2, if_pos hi] at hy'
       obtain rfl := Option.some.inj hy'
       rcases hat' with h | h
       · rw [h]; exact hdis a i y u hy hu (fun h => e1 h.symm)
       · right
         rw [h]
         intro e
         have := hlt a y hy _ e
         omega
     · rw [if_neg e2] at hy'
       exact hdis a b y y' hy hy' hab
end Go.Proofs.YteamhbohgoclgaaGreatDoor

namespace Go.Proofs.YteamhbohgoclgaaGreatDoor
open Go.RowKit Go.Maps

theorem partsN_succ (k : Nat) (f : List Nat) : partsN (k + 1) f = partsN k f + if f.getD k k = k then 1 else 0 := by
 unfold partsN; simp only [countN]; congr 1; by_cases h : f.getD k k = k
 · simp only [h, decide_true]
 · simp
theorem parts_new {f : List Nat} {B bm k : Nat} {v v' : Value} {wr w1 w2 : World} {us : List Value} {D : DataW Unit} (hv : OV wr B 37 v us) (hlen : us.length = partsN k f) (hbm : B <= bm) (hD : IsMap D)
   (hroot : ∀ r, r < k -> f.getD r r = r -> ∃ i, i < us.length /\ D.atKey (.int .i64 r) (.lit (.int .i64 0)) = .lit (.int .i64 (i : Nat)))
   (hrow : ∀ (j : Nat) (u : Value), us[j]? = some u -> ∃ zs, OI wr B u zs /\ zs.length <= k) (hdis : ∀ (i j : Nat) (u u' : Value), us[i]? = some u -> us[j]? = some u' -> i ≠ j -> u.ownBlock = none \/ u.ownBlock ≠ u'.ownBlock)
   (hk : f.getD k k = k) (hmap : w1.ownsMap Tryz.prog 3 (plainElem Tryz.prog 3) bm (k + 1) (D.put (.int .i64 (k : Nat)) (.lit (.int .i64 (us.length : Nat))))) (hg1 : wr.grownBy w1 (some bm)) (hoff : v.ownBlock ≠ some bm) (hoffs : ∀ (j : Nat) (u : Value), us[j]? = some u -> u.ownBlock ≠ some bm)
   (hv' : OV w2 B 37 v' (us ++ [.slice none 0 0])) (hg2 : (w1.alloc (.cells #[.slice none 0 0] 37)).grownBy w2 v.ownBlock) : PartsR f B bm k (k + 1) v' w2 := by
 have hg2' : w1.grownBy w2 v.ownBlock := (World.grownBy_alloc w1 _ _).trans hg2
 refine ⟨us ++ [.slice none 0 0], _, hv', ?_, hbm, hmap.kept hg2' (fun e => hoff e.symm), hD.put _ _, fun r hr hf => ?_, fun j u hu => ?_, fun i j u u' hu hu' hij => ?_⟩
 · rw [partsN_succ, if_pos hk, List.length_append, hlen]; rfl
 · by_cases e : r = k
   · subst e
     exact ⟨us.length, by simp, atKey_put_same hD (by simp [WideAt.IsKeyLit]) _ _⟩
   · obtain ⟨i, hi, hat⟩ := hroot r (by omega) hf
     refine ⟨i, by simp; omega, ?_⟩
     rw [atKey_put_other (by simp; omega)]; exact hat
 · rcases Nat.lt_or_ge j us.length with c | c
   · rw [List.getElem?_append_left c] at hu
     obtain ⟨zs, hz, hl⟩ := hrow j u hu
     exact ⟨zs, (hz.kept' hg1 (.inr (hoffs j u hu))).kept' hg2' (hz.apart hv (by decide)), hl⟩
   · rw [List.getElem?_append_right c] at hu
     have : j - us.length = 0 := by
       rcases Nat.eq_zero_or_pos (j - us.length) with h | h
       · exact h
       · rw [List.getElem?_eq_none (by simp; omega)] at hu; cases hu
     rw [this] at hu
     obtain rfl := Option.some.inj hu
     exact ⟨[], OI.nil_ _ _, Nat.zero_le _⟩
 · rcases Nat.lt_or_ge i us.length with c | c
   · rw [List.getElem?_append_left c] at hu
     rcases Nat.lt_or_ge j us.length with c' | c'
     · rw [List.getElem?_append_left c'] at hu'
       exact hdis i j u u' hu hu' hij
     · rw [List.getElem?_append_right c'] at hu'
       have : j - us.length = 0 := by
         rcases Nat.eq_zero_or_pos (j - us.length) with h | h
         · exact h
         · rw [List.getElem?_eq_none (by simp; omega)] at hu'; cases hu'
       rw [this] at hu'
       obtain rfl := Option.some.inj hu'
       cases hb : u.ownBlock with
       | none => exact .inl rfl
       | some b => right; simp [Value.ownBlock]
   · rw [List.getElem?_append_right c] at hu
     have : i - us.length = 0 := by
       rcases Nat.eq_zero_or_pos (i - us.length) with h | h
       · exact h
       · rw [List.getElem?_eq_none (by simp; omega)] at hu; cases hu
     rw [this] at hu
     obtain rfl := Option.some.inj hu
     exact .inl rfl
theorem parts_old {f : List Nat} {B bm k : Nat} {v : Value} {wr : World} (h : PartsR f B bm k k v wr) (hk : f.getD k k ≠ k) : PartsR f B bm k (k + 1) v wr := by
 obtain ⟨us, D, hv, hlen, hbm, hmap, hD, hroot, hrow, hdis⟩ := h
 refine ⟨us, D, hv, by rw [partsN_succ, if_neg hk]; exact hlen, hbm, hmap.mono (by omega), hD, fun r hr hf => ?_, hrow, hdis⟩
 by_cases e : r = k
 · subst e; exact absurd hf hk
 · exact hroot r (by omega) hf
theorem parts_any (f : List Nat) (b n : Nat) (T : TypeId) (w : World) (hf : Fo f) (hn : n <= 12) (hb : BL w b T (nvL f)) :
   Calls Tryz.prog 142 #[.pointer (some ⟨b, 0, none⟩), .int .i64 (n : Int)] w fun e w' => (∃ A c, e = .returned (.slice A (partsN n f) c)) /\ Below w.heap.size w w' := by
 obtain ⟨i0, hi, hz0, hz1, hz2⟩ := info_parts int_info
 obtain ⟨i1, hi1, hz01, hz11, hz21⟩ := info_parts row_info
 have HB := Hd hb
 have HF := Hd hf
 clear hb hf
 have hmm := @run_makeMap Tryz.prog
 go_enter Tryz.func142, Tryz.ntmps142
 go_wp2
 clear hmm
 go_loopw [5, 11] (fun v i wr => ∃ k : Nat, k <= n /\ i = .int .i64 k /\ Hid (PartsR f w.heap.size w.heap.size k k v wr) /\ Hid (Below w.heap.size w wr)) (fun _ i _ => n - (intOf i).toNat)
 case atStart =>
   exact ⟨0, Nat.zero_le _, rfl, ⟨[], .map [], OV.nil_ _ _ _, rfl, Nat.le_refl _, World.ownsMap_made _ _ _ _, isMap_empty, fun r hr => by omega, fun j u hu => by simp at hu, fun i j u u' hu => by simp at hu⟩, below_alloc w _⟩
 case round =>
   obtain ⟨k, hk, rfl, hR, hbel⟩ := hrel
   by_cases hlt : k < n
   · have hk12 : k < 12 := by omega
     have HRoot := Hd (root_any f b k T _ HF.out hk12 (HB.out.below hbel.out HB.out.lt))
     have hrle := root_le f k
     have HFix := Hd (root_fix HF.out hk12)
     have HF1 : Hid (rootF f k = k -> f.getD k k = k) := fun h => by have := HFix.out; rwa [h] at this
     have HF2 : Hid (rootF f k ≠ k -> f.getD k k ≠ k) := fun h h2 => h (root_of_fix h2)
     have HFix2 : Hid (f.getD (rootF f k) (rootF f k) = rootF f k) := HFix.out
     clear HFix
     generalize hr : rootF f k = r at *
     clear hr
     have key : ∀ (W0 : World) (v0 : Value), Hid (PartsR f w.heap.size w.heap.size k (k + 1) v0 W0) -> Hid (Below w.heap.size w W0) -> True := fun _ _ _ _ => trivial
     by_cases hrk : r = k
     · obtain ⟨us, D, hv, hlen, hbm, hmap, hD, hroot, hrow, hdis⟩ := hR.out
       have hlen12 : us.length <= 12 := by have : partsN k f <= k := countN_le _ _; omega
       have hoff := hv.off_map hmap
       have hoffs : ∀ (j : Nat) (u : Value), us[j]? = some u -> u.ownBlock ≠ some w.heap.size := fun j u hu => by obtain ⟨zs, hz, _⟩ := hrow j u hu; exact hz.off_map hmap
       obtain ⟨A0, c0, rfl⟩ : ∃ A0 c0, u5 = .slice A0 us.length c0 := by obtain ⟨A0, c0, h, _⟩ := hv.rv; exact ⟨A0, c0, h⟩
       obtain rfl := hrk
       have HFk := Hd (HF1.out rfl)
       have hup := Hd hmap
       have HV := Hd hv
       have HD := Hd hD
       have HRo := Hd hroot
       have HRw := Hd hrow
       have HDs := Hd hdis
       have HLe := Hd hlen
       have HO := Hd hoff
       have HOs := Hd hoffs
       clear hv hlen hmap hD hroot hrow hdis hoff hoffs HF1 HF2 key
       go_wp2_with (first
         | (go_at_call 195; refine HRoot.out.mono ?_; rintro e w' ⟨rfl, rfl⟩)
         | (at_mapUpdate; refine wpList_mapUpdate_own _ rfl _ _ _ 274 rfl 3 3 law_int Tryz.underlying274 _ w.heap.size r _ rfl hup.out (by unfold maxLen; omega) _ _ (.int .i64 (r : Nat)) rfl rfl (keyOf_int_mk Tryz.underlying3 (wf_nat (by omega))) (.lit (.int .i64 (us.length : Nat))) [] (plainElem_int Tryz.underlying3 (wf_nat (by omega))) ?_; intro w1 hown1 hg1; have HM1 := Hd hown1; have HG1 := Hd hg1; have HV1 := Hd ((HV.out.kept' hg1 (.inr HO.out)).kept' (World.grownBy_alloc w1 (.cells #[.slice none 0 0] 37) none) (by cases (Value.slice A0 us.length c0).ownBlock <;> simp)); have hw1 := hg1.size; clear hown1 hg1)
         | (at_builtin; refine wpList_appendV _ rfl _ _ 148 rfl 37 i1 _ 24 Tryz.underlying148 hi1 hz01 hz11 hz21 rfl w.heap.size _ us rfl HV1.out _ [.slice none 0 0] rfl (RV.lit w1 #[.slice none 0 0] 37 1 rfl (by omega)) (by simp [Value.oneCell']) (by simp; omega) (by simp; omega) (by have := hbel.out.size; simp; omega) ?_; intro v2 w2 hown2 hg2 hat2; have HP : Hid (PartsR f w.heap.size w.heap.size r (r + 1) v2 w2) := (parts_new HV.out HLe.out (Nat.le_refl _) HD.out HRo.out HRw.out HDs.out HFk.out HM1.out HG1.out HO.out HOs.out hown2 hg2); have hb2 : Hid (Below w.heap.size w w2) := ((hbel.out.grown HG1.out hbel.out.size (fun j hj => by cases hj; exact Nat.le_refl _)).alloc (by have := hbel.out.size; omega) _).grown hg2 (by have := hbel.out.size; simp; omega) (fun j hj => (HV.out.1.lt j hj).1); clear hown2 hg2 hat2))
       obtain ⟨i, m, g, cap, u, zs, rfl, hi', hm, hg, hrun, hcl, hzs, hzl, hnext⟩ := parts_step HP.out.draw (r := r) (by omega) HFk.out (by omega)
       have hZ : Hid (OV (w2.alloc (.cells #[.int .i64 (r : Int)] 3)).drew w.heap.size 3 u (zs.map (Value.int .i64))) := (hzs.kept' (World.grownBy_alloc w2.drew (.cells #[.int .i64 (r : Int)] 3) none) (by cases u.ownBlock <;> simp))
       have hX : Hid (RV (w2.alloc (.cells #[.int .i64 (r : Int)] 3)).drew (.slice (some ⟨w2.heap.size, 0, none⟩) 1 1) [.int .i64 (r : Int)]) := RV.lit w2.drew #[.int .i64 (r : Int)] 3 1 rfl (by omega)
       have HB3 : Hid (∀ w3, (w2.alloc (.cells #[.int .i64 (r : Int)] 3)).drew.grownBy w3 u.ownBlock -> Below w.heap.size w w3) := fun w3 hg3 => (hb2.out.drew.alloc (by have := hb2.out.size; simp; omega) _).grown hg3 (by have := hb2.out.size; simp; omega) (fun j hj => (hzs.1.lt j hj).1)
       have hsz : w.heap.size <= (w2.alloc (.cells #[.int .i64 (r : Int)] 3)).drew.heap.size := by have := hb2.out.size; simp; omega
       have r1 := hrun w2.drew (World.grownBy.refl _ _)
       have r2 : (Instr.lookup 274 (.map (some w.heap.size)) (.int .i64 (r : Int)) false).run Tryz.prog (w2.alloc (.cells #[.int .i64 (r : Int)] 3)).drew = .ok (.int .i64 (i : Nat)) (w2.alloc (.cells #[.int .i64 (r : Int)] 3)).drew := hrun (w2.drew.alloc (.cells #[.int .i64 (r : Int)] 3)) (World.grownBy_alloc _ _ _)
       have hgl : g < w2.drew.heap.size := block_lt_of_cell hcl
       have c2 : (w2.alloc (.cells #[.int .i64 (r : Int)] 3)).drew.cell? ⟨g, i, none⟩ = some u := (World.cell?_alloc_lt _ _ _ hgl).trans hcl
       have HNx := Hd hnext
       have HRn := Hd hrun
       clear hnext hzs hrun hgl
       go_region_law (refine step_appendV _ rfl (.tmp 36) (.tmp 38) 37 rfl 3 i0 _ 8 Tryz.underlying37 hi hz0 hz1 hz2 rfl w.heap.size u (zs.map (Value.int .i64)) (by simp [Act.eval]) hZ.out (.slice (some ⟨w2.heap.size, 0, none⟩) 1 1) [.int .i64 (r : Int)] (by simp [Act.eval]) hX.out (by simp) (by simp [Value.oneCell']) (by simp; omega) (by simp; omega) hsz ?_; intro g3 cap3 w3 hown3 hg3 hat3; have r3 := HRn.out w3 ((World.grownBy_alloc _ _ _).trans hg3); obtain ⟨hc3, hf3, hP3⟩ := HNx.out (.int .i64 (r : Int)) _ w3 hown3 hg3 (by simpa using hat3); simp only [List.length_map, List.length_cons, List.length_nil, Nat.zero_add] at hP3; have HP3 := Hd hP3; have HW3 := Hd (HB3.out w3 hg3); clear hP3 hown3 hg3 hat3)
       all_goals
         go_wp2
         go_roundw
         case rel => exact ⟨r + 1, by omega, by go_num, HP3.out, HW3.out.setCell (p := ⟨g, i, none⟩) hg _⟩
         case measure => simp [intOf]; omega
     · have hrn : ((r : Int) == k) = false := by simp; omega
       have HP := Hd (parts_old hR.out (HF2.out hrk))
       have HRK := Hd hrk
       clear HF1 HF2 key hrk
       go_wp2_with (go_at_call 195; refine HRoot.out.mono ?_; rintro e w' ⟨rfl, rfl⟩)
       obtain ⟨i, m, g, cap, u, zs, rfl, hi', hm, hg, hrun, hcl, hzs, hzl, hnext⟩ := parts_step HP.out.draw (r := r) (by omega) HFix2.out (by omega)
       have hZ : Hid (OV (wr.alloc (.cells #[.int .i64 (k : Int)] 3)).drew w.heap.size 3 u (zs.map (Value.int .i64))) := (hzs.kept' (World.grownBy_alloc wr.drew (.cells #[.int .i64 (k : Int)] 3) none) (by cases u.ownBlock <;> simp))
       have hX : Hid (RV (wr.alloc (.cells #[.int .i64 (k : Int)] 3)).drew (.slice (some ⟨wr.heap.size, 0, none⟩) 1 1) [.int .i64 (k : Int)]) := RV.lit wr.drew #[.int .i64 (k : Int)] 3 1 rfl (by omega)
       have HB3 : Hid (∀ w3, (wr.alloc (.cells #[.int .i64 (k : Int)] 3)).drew.grownBy w3 u.ownBlock -> Below w.heap.size w w3) := fun w3 hg3 => (hbel.out.drew.alloc (by have := hbel.out.size; simp; omega) _).grown hg3 (by have := hbel.out.size; simp; omega) (fun j hj => (hzs.1.lt j hj).1)
       have hsz : w.heap.size <= (wr.alloc (.cells #[.int .i64 (k : Int)] 3)).drew.heap.size := by have := hbel.out.size; simp; omega
       have r1 := hrun wr.drew (World.grownBy.refl _ _)
       have r2 : (Instr.lookup 274 (.map (some w.heap.size)) (.int .i64 (r : Int)) false).run Tryz.prog (wr.alloc (.cells #[.int .i64 (k : Int)] 3)).drew = .ok (.int .i64 (i : Nat)) (wr.alloc (.cells #[.int .i64 (k : Int)] 3)).drew := hrun (wr.drew.alloc (.cells #[.int .i64 (k : Int)] 3)) (World.grownBy_alloc _ _ _)
       have hgl : g < wr.drew.heap.size := block_lt_of_cell hcl
       have c2 : (wr.alloc (.cells #[.int .i64 (k : Int)] 3)).drew.cell? ⟨g, i, none⟩ = some u := (World.cell?_alloc_lt _ _ _ hgl).trans hcl
       have HNx := Hd hnext
       have HRn := Hd hrun
       clear hnext hzs hrun hgl
       go_region_law (refine step_appendV _ rfl (.tmp 36) (.tmp 38) 37 rfl 3 i0 _ 8 Tryz.underlying37 hi hz0 hz1 hz2 rfl w.heap.size u (zs.map (Value.int .i64)) (by simp [Act.eval]) hZ.out (.slice (some ⟨wr.heap.size, 0, none⟩) 1 1) [.int .i64 (k : Int)] (by simp [Act.eval]) hX.out (by simp) (by simp [Value.oneCell']) (by simp; omega) (by simp; omega) hsz ?_; intro g3 cap3 w3 hown3 hg3 hat3; have r3 := HRn.out w3 ((World.grownBy_alloc _ _ _).trans hg3); obtain ⟨hc3, hf3, hP3⟩ := HNx.out (.int .i64 (k : Int)) _ w3 hown3 hg3 (by simpa using hat3); simp only [List.length_map, List.length_cons, List.length_nil, Nat.zero_add] at hP3; have HP3 := Hd hP3; have HW3 := Hd (HB3.out w3 hg3); clear hP3 hown3 hg3 hat3)
       all_goals
         go_wp2
         go_roundw
         case rel => exact ⟨k + 1, by omega, by go_num, HP3.out, HW3.out.setCell (p := ⟨g, i, none⟩) hg _⟩
         case measure => simp [intOf]; omega
   · obtain rfl : k = n := by omega
     go_wp2
     obtain ⟨us, D, hv, hlen, hbm, hmap, hD, hroot, hrow, hdis⟩ := hR.out
     obtain ⟨A0, c0, rfl, _⟩ := hv.rv
     go_ret
     rw [hlen]
     exact ⟨⟨A0, c0, rfl⟩, hbel.out⟩
open Go.RowKit

def connB (n : Int) (es : List Tri) : Bool := decide (partsN n.toNat (joinAll grownF es) = 1)
def compN (n : Int) (es : List Tri) : Nat := if gcheckE n es ≠ 0 then 0 else partsN n.toNat (joinAll grownF es)
def connL (n : Int) (es : List Tri) : Bool := decide (gcheckE n es = 0) && connB n es
theorem connL_eq (n : Int) (es : List Tri) : connL n es = decide ((compN n es : Int) = 1) := by
 unfold connL compN connB
 by_cases h : gcheckE n es = 0
 · simp only [h, ne_eq, not_true_eq_false, if_false, decide_true, Bool.true_and]
   rw [decide_eq_decide]; omega
 · simp [h]
theorem connB_iff {n : Nat} {es : List Tri} (h1 : 1 <= n) (h2 : n <= 12) (he : Edges n es) : connB n es = true ↔ Conn n (wgt es) := by
 unfold connB
 rw [decide_eq_true_iff, conn_parts h1 h2 he.ends (fun t ht => (he.mult t ht).1) (by simpa using joinAll_says h2 es [] grownF (says_nil n) he.ends)]
 simp
theorem Components_any (g : Value) (n : Int) (es : List Tri) (w : World) (hg : GV w g n es) :
   Calls Tryz.prog 97 #[g] w fun e w' => (∃ A c, e = .returned (.tuple #[.slice A (compN n es) c, .int .i64 (gcheckE n es)])) /\ Below w.heap.size w w' := by
 have HG := Hd hg
 obtain ⟨A, c, rfl, hlc, hc, -⟩ := hg.open_
 clear hg
 have HG1 := Hd (HG.out.below (below_alloc w (.cells #[.int .i64 n, .slice A es.length c] 25)))
 by_cases h0 : gcheckE n es = 0
 · obtain ⟨m, hm, hm1, hm2, hed⟩ := gcheckE_zero h0
   subst hm
   have HL : Hid (compN m es = partsN m (joinAll grownF es)) := by show _ = _; unfold compN; simp [h0]
   have H0 := Hd h0
   have HEd := Hd (ends_mono hed.ends hm2)
   clear h0 hed
   go_enter Tryz.func97, Tryz.ntmps97
   go_wp2_with fail
   refine (gCheck_any _ (m : Int) es _ HG1.out).mono ?_
   rw [H0.out]
   rintro e w1 ⟨rfl, hb1⟩
   have hz1 := hb1.size
   simp only [World.size_alloc] at hz1
   obtain ⟨hcc, hff⟩ := bcell hb1
   have HB1 : Hid (Below w.heap.size w w1) := (below_alloc w _).trans (hb1.mono (by simp))
   have HG2 := Hd (HG1.out.below hb1)
   have c0 : w1.cell? ⟨w.heap.size, 0, none⟩ = some (.int .i64 (m : Int)) := (hcc _ _ (by simp)).trans (cell_lit rfl)
   have c1 : w1.cell? ⟨w.heap.size, 1, none⟩ = some (.slice A es.length c) := (hcc _ _ (by simp)).trans (cell_lit rfl)
   clear hcc hff hb1
   go_wp2_with fail
   refine (joined_any _ (m : Int) es _ HG2.out HEd.out).mono ?_
   rintro e w2 ⟨rfl, hb2⟩
   have hz2 := hb2.size
   have HB2 : Hid (Below w.heap.size w w2) := HB1.out.trans (hb2.mono (by omega))
   have c2 : w2.cell? ⟨w.heap.size, 0, none⟩ = some (.int .i64 (m : Int)) := (hb2.cell (p := ⟨w.heap.size, 0, none⟩) (by simp; omega)).trans c0
   have hn := BL.new' w2 #[Value.int IntKind.i64 0, Value.int IntKind.i64 0, Value.int IntKind.i64 0, Value.int IntKind.i64 0, Value.int IntKind.i64 0, Value.int IntKind.i64 0, Value.int IntKind.i64 0, Value.int IntKind.i64 0, Value.int IntKind.i64 0, Value.int IntKind.i64 0, Value.int IntKind.i64 0, Value.int IntKind.i64 0] 203
   have hth := Hd hn.there
   have hlen : (joinAll grownF es).length = 12 := (joinAll_fo grown_fo HEd.out).1
   have hfo : Hid (BL ((w2.alloc (.cells #[Value.int IntKind.i64 0, Value.int IntKind.i64 0, Value.int IntKind.i64 0, Value.int IntKind.i64 0, Value.int IntKind.i64 0, Value.int IntKind.i64 0, Value.int IntKind.i64 0, Value.int IntKind.i64 0, Value.int IntKind.i64 0, Value.int IntKind.i64 0, Value.int IntKind.i64 0, Value.int IntKind.i64 0] 203)).setCells w2.heap.size 0 (nvL (joinAll grownF es))) w2.heap.size 203 (nvL (joinAll grownF es))) := by
     have := hn.setCells (nvL (joinAll grownF es)) 0 (by simp [nvL, hlen])
     show BL _ _ _ _
     simpa using this
   have HB3 : Hid (Below w.heap.size w ((w2.alloc (.cells #[Value.int IntKind.i64 0, Value.int IntKind.i64 0, Value.int IntKind.i64 0, Value.int IntKind.i64 0, Value.int IntKind.i64 0, Value.int IntKind.i64 0, Value.int IntKind.i64 0, Value.int IntKind.i64 0, Value.int IntKind.i64 0, Value.int IntKind.i64 0, Value.int IntKind.i64 0, Value.int IntKind.i64 0] 203)).setCells w2.heap.size 0 (nvL (joinAll grownF es)))) := below_setCells (HB2.out.alloc (by omega) _) (by omega) _ _
   have c3 : ((w2.alloc (.cells #[Value.int IntKind.i64 0, Value.int IntKind.i64 0, Value.int IntKind.i64 0, Value.int IntKind.i64 0, Value.int IntKind.i64 0, Value.int IntKind.i64 0, Value.int IntKind.i64 0, Value.int IntKind.i64 0, Value.int IntKind.i64 0, Value.int IntKind.i64 0, Value.int IntKind.i64 0, Value.int IntKind.i64 0] 203)).setCells w2.heap.size 0 (nvL (joinAll grownF es))).cell? ⟨w.heap.size, 0, none⟩ = some (.int .i64 (m : Int)) := by
     rw [World.cell?_setCells_out _ _ _ _ _ (fun h => by simp at h; omega)]
     exact (World.cell?_alloc_lt _ _ _ (by simp; omega)).trans c2
   have HLn := Hd hlen
   clear hb2 hn hlen c0 c1 c2
   go_wp2_with (first | (refine wpList_store_mid rfl 203 _ _ rfl w2.heap.size 0 (nvL (joinAll grownF es)).toArray rfl rfl (by have := hth.out; simpa [nvL, HLn.out] using this) (fo_size HLn.out) (all_oneCell_toArray (nvL_one _)) ?_; generalize (w2.alloc (.cells #[Value.int IntKind.i64 0, Value.int IntKind.i64 0, Value.int IntKind.i64 0, Value.int IntKind.i64 0, Value.int IntKind.i64 0, Value.int IntKind.i64 0, Value.int IntKind.i64 0, Value.int IntKind.i64 0, Value.int IntKind.i64 0, Value.int IntKind.i64 0, Value.int IntKind.i64 0, Value.int IntKind.i64 0] 203)).setCells w2.heap.size 0 (nvL (joinAll grownF es)).toArray.toList = W at *) | (go_at_call 142; refine (parts_any (joinAll grownF es) w2.heap.size m _ _ (joinAll_fo grown_fo HEd.out) hm2 hfo.out).mono ?_; rintro e w4 ⟨⟨A4, c4, rfl⟩, hb4⟩; have HB4 : Hid (Below w.heap.size w w4) := HB3.out.trans (hb4.mono HB3.out.size); clear hb4))
   go_ret2
   refine ⟨⟨A4, c4, ?_⟩, HB4.out⟩
   rw [HL.out, H0.out]; rfl
 · have hne : (gcheckE n es != 0) = true := by simp [h0]
   have HL : Hid (compN n es = 0) := by show _ = _; unfold compN; simp [h0]
   clear h0
   go_enter Tryz.func97, Tryz.ntmps97
   go_wp2_with (go_at_call 140; refine (gCheck_any _ n es _ HG1.out).mono ?_; rintro e w1 ⟨rfl, hb1⟩)
   go_ret2
   exact ⟨⟨none, 0, by rw [HL.out]; rfl⟩, (below_alloc w _).trans (hb1.mono (by simp))⟩
theorem Connected_any (g : Value) (n : Int) (es : List Tri) (w : World) (hg : GV w g n es) :
   Calls Tryz.prog 64 #[g] w fun e w' => e = .returned (.tuple #[.bool (connL n es), .int .i64 (gcheckE n es)]) /\ Below w.heap.size w w' := by
 obtain ⟨A, c, rfl, hlc, hc, -⟩ := hg.open_
 have HG2 := Hd (hg.below (below_alloc w (.cells #[.int .i64 n, .slice A es.length c] 25)))
 have HE := Hd (connL_eq n es)
 clear hg
 go_enter Tryz.func64, Tryz.ntmps64
 go_wp2_with (go_at_call 97; refine (Components_any _ n es _ HG2.out).mono ?_; rintro e w1 ⟨⟨A1, c1, rfl⟩, hb1⟩)
 go_ret2
 refine ⟨?_, (below_alloc w _).trans (hb1.mono (by simp))⟩
 rw [HE.out]
 congr 3
 trace_state
end Go.Proofs.YteamhbohgoclgaaGreatDoor
