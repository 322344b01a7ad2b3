/- From what the form hands over to the words of the walks: the rows of law57, with their claims, and the library's variables. -/
import Derived.Test.YteamhbohgoclgaaGreatDoorP32
import Derived.Test.YteamhbohgoclgaaGreatDoorP17
import Derived.HandedShaped
import Derived.LaidMore
import Derived.Lay
import Derived.Stop.Joined
import Derived.Stop.LaidErr
import Derived.Test.YteamhbohgoclgaaGreatDoorCards
import Derived.Test.YteamhbohgoclgaaGreatDoorTie
set_option maxRecDepth 100000
set_option maxHeartbeats 16000000
namespace Go.Proofs.YteamhbohgoclgaaGreatDoor
open Go.RowKit Go.Shelf

open Go.ChangeShapes Go.WideShapes Go.ChangeAt Go.RowKit Go.Shelf

/-- A row that lists variables, with the world's shape for the contract. -/
theorem returns_laid_shaped {H : Type} {enc : TypeId × Value → H} {a : Assume} {C : Checked} {os : Os} {f : FuncId} {fn : Func} {s : ChangeSpec} {conds : List PathCond} {apart fresh handsOn again : Bool} {X : World → Array Value → Prop}
    (hX : ∀ (w w' : World) (args : Array Value), w.heap = w'.heap → X w args → X w' args)
    (own : ownKnob C.prog.godebug = none) (started : os.Started) (noInit : C.prog.inits.idxOf? f = none) (hfn : C.prog.funcs[f]? = some fn)
    (witness : ∃ (w : World) (tape : Tape) (i : Input), w.os = os ∧ (w.forCall tape i).Shaped C.prog ∧ i.vars = [] ∧ Input.okWide C.prog (w.forCall tape i) .any w.heap.size f i ∧
      ((s.pre enc C.prog fn conds apart (w.forCall tape i).memory i.args ∧ X (w.forCall tape i).memory i.args) ∧ sizedMet enc C.prog fn (OpenSpec.ofChange s) apart (w.forCall tape i).memory i.args) ∧ a.holds C.prog (lone (Frame.enter C.prog f i.args .normal) [] (w.forCall tape i)))
    (contract : ∀ (W : World) (base : Nat) (args : Array Value) (ds gs : List (DataW H)) (before : List MemPlace),
      (∀ (j : Nat) t v, fn.params[j]? = some t → args[j]? = some v → Value.okWide C.prog W .any base t v) →
      DataW.Whole enc C.prog fn.params.toList s.vars apart W args.toList ds gs before →
      (DataW.weightsEach C.prog (fn.params.toList ++ s.plain.varTypes C.prog) (ds ++ gs)).all (· ≤ reachBytes) = true → X W args → W.ShapedOpen C.prog →
      Calls C.prog f args W fun e W' => ∃ v, e = .returned v ∧ s.post enc C.prog fn apart fresh handsOn again W args v W') :
    ReturnsInHanded a C os f .any (fun w args => (s.pre enc C.prog fn conds apart w args ∧ X w args) ∧ sizedMet enc C.prog fn (OpenSpec.ofChange s) apart w args) (s.post enc C.prog fn apart fresh handsOn again) := by
  refine returnsInHanded_of_calls own started noInit witness ?_
  intro w tape i _ hsh _ hok hpre _
  obtain ⟨_, _, _, fn', hfn', _, _, _, _, hval⟩ := hok
  have e : fn' = fn := Option.some.inj (hfn'.symm.trans hfn)
  subst e
  obtain ⟨⟨⟨ds, gs, before, hw, -⟩, hx⟩, hz⟩ := hpre
  have hw' := DataW.Whole.of_heap (w' := w.forCall tape i) (by rfl) hw
  refine (contract (w.forCall tape i) w.heap.size i.args ds gs before hval hw' (hz.weights hw) (hX _ _ _ (by rfl) hx) hsh).mono fun e W' ⟨v, he, hp⟩ => ?_
  subst he
  exact ChangeSpec.post_blind hp
theorem gRange_ : Tryz.prog.globalNamed "strconv.ErrRange" = some 5 := by kernel_rfl
theorem tRange_ : (Tryz.prog.globals[5]?).map (·.type) = some 144 := by kernel_rfl
theorem star_ : "*errors.errorString" = "*" ++ "errors.errorString" := by decide
theorem rowErr_ : ∀ u, Tryz.prog.typeName? 3 u = some "*errors.errorString" → u = 423 := fun u h =>
  typeName_ptr_named (nm := "errors.errorString") (by rw [← star_]; kernel_rfl) (by kernel_rfl) (by decide) u (by rw [← star_]; exact h)
/-- The listed data. -/
abbrev laid57 : List (String × DataW Unit) := Rows.proofReadsRow.laid
theorem lv_of_laid {W : World} (hL : laidMetH Tryz.prog laid57 W) (hsh : W.ShapedOpen Tryz.prog) : LV W := by
  rw [MakeChecks.laidMetH_plain _ _ _ (by kernel_rfl)] at hL
  refine ⟨cell_of_shapedOpen_int (P := Tryz.prog) (g := 0) (t := 3) (zero := #[.int .i64 0]) hsh (of_decide_eq_true (by kernel_rfl)) (by kernel_rfl) rfl (by kernel_rfl) (by kernel_rfl) Tryz.underlying3, ?_⟩
  have h4 := hL.tail.tail.tail.tail
  obtain ⟨a, s, hv, -, -, -⟩ := laid_sentinel h4 gRange_ tRange_ Tryz.underlying144 rowErr_ Tryz.underlying423 Tryz.underlying425 rfl rfl Tryz.underlying9 (by kernel_rfl) (by kernel_rfl)
  have hc := World.var?_cell gRange_ hv 0
  exact ⟨_, by simpa using hc, .inr ⟨_, _, rfl⟩⟩
theorem gPow_ : Tryz.prog.globalNamed "internal/strconv.uint64pow10" = some 3 := by kernel_rfl
theorem tPow_ : (Tryz.prog.globals[3]?).map (·.type) = some 378 := by kernel_rfl
theorem tb_of_laid {W : World} (hL : laidMetH Tryz.prog laid57 W) : TB W := by
  rw [MakeChecks.laidMetH_plain _ _ _ (by kernel_rfl)] at hL
  exact Go.Lib.tabIs_of_head gPow_ tPow_ Tryz.underlying378 Tryz.underlying325 (by kernel_rfl) (by kernel_rfl) hL.tail.tail
theorem ints_ofd {H : Type} {enc : TypeId × Value → H} {W : World} {fuel : Nat} {v : Value} {x : DataW H × List MemPlace} (h : DataW.trod enc Tryz.prog W 0 (fun _ => true) true fuel 38 [v] = some x)
    (hs : ∀ elems spare, x.1 = .slice elems spare → (elems.length + spare.length) * 8 ≤ 140737488351232) : ∃ zs, RI W v zs := by
  rcases open_ints Tryz.underlying38 Tryz.underlying3 cellsInt_ h with ⟨hcs, -⟩ | ⟨a, len, cap, zs, hcs, _, hl, hm, hz, hx, hcell, _⟩
  · simp only [List.cons.injEq, and_true] at hcs
    subst hcs
    exact ⟨[], RI.nil_ W⟩
  · simp only [List.cons.injEq, and_true] at hcs
    subst hcs
    simp only [if_true] at hz
    have hreach := hs _ _ (by rw [hx])
    simp only [lits, List.length_map, List.length_take, List.length_drop] at hreach
    have hlen : (zs.take len).length = len := by rw [List.length_take]; omega
    refine ⟨zs.take len, ?_⟩
    have key := RI.mk_ (w := W) (A := some a) (c := cap) (zs := zs.take len) (by omega) (by omega) fun k z hk => ?_
    · rw [hlen] at key; exact key
    · have hk2 : k < (zs.take len).length := (List.getElem?_eq_some_iff.1 hk).1
      have hkz : k < zs.length := by omega
      have hc := hcell k hkz
      have e : zs.getD k 0 = z := by
        rw [List.getElem?_take, if_pos (by omega)] at hk
        rw [List.getD_eq_getElem?_getD, hk]; rfl
      rw [e] at hc
      exact ⟨a, rfl, by have := block_lt_of_cell' hc; rwa [block_of_add] at this, hc⟩
theorem ints_ofi {H : Type} {enc : TypeId × Value → H} {W : World} {fuel : Nat} {v : Value} {x : DataW H × List MemPlace} (h : DataW.trod enc Tryz.prog W 0 (fun _ => true) true fuel 37 [v] = some x)
    (hs : ∀ elems spare, x.1 = .slice elems spare → (elems.length + spare.length) * 8 ≤ 140737488351232) : ∃ zs, RI W v zs := by
  rcases open_ints Tryz.underlying37 Tryz.underlying3 cellsInt_ h with ⟨hcs, -⟩ | ⟨a, len, cap, zs, hcs, _, hl, hm, hz, hx, hcell, _⟩
  · simp only [List.cons.injEq, and_true] at hcs
    subst hcs
    exact ⟨[], RI.nil_ W⟩
  · simp only [List.cons.injEq, and_true] at hcs
    subst hcs
    simp only [if_true] at hz
    have hreach := hs _ _ (by rw [hx])
    simp only [lits, List.length_map, List.length_take, List.length_drop] at hreach
    have hlen : (zs.take len).length = len := by rw [List.length_take]; omega
    refine ⟨zs.take len, ?_⟩
    have key := RI.mk_ (w := W) (A := some a) (c := cap) (zs := zs.take len) (by omega) (by omega) fun k z hk => ?_
    · rw [hlen] at key; exact key
    · have hk2 : k < (zs.take len).length := (List.getElem?_eq_some_iff.1 hk).1
      have hkz : k < zs.length := by omega
      have hc := hcell k hkz
      have e : zs.getD k 0 = z := by
        rw [List.getElem?_take, if_pos (by omega)] at hk
        rw [List.getD_eq_getElem?_getD, hk]; rfl
      rw [e] at hc
      exact ⟨a, rfl, by have := block_lt_of_cell' hc; rwa [block_of_add] at this, hc⟩
theorem array6 {cs : Array Value} (h : cs.size = 6) : ∃ c0 c1 c2 c3 c4 c5, cs = #[c0, c1, c2, c3, c4, c5] := by
  obtain ⟨l⟩ := cs
  match l, h with
  | [c0, c1, c2, c3, c4, c5], _ => exact ⟨c0, c1, c2, c3, c4, c5, rfl⟩
/-- A claim out of its six cells. -/
theorem claim_of' {H : Type} {enc : TypeId × Value → H} {P : Program} {W : World} {t : TypeId} {base b0 : Nat} {r : Reach} {f0 f1 f2 f3 f4 f5 : Field} {v : Value} {d : DataW H} {p : List MemPlace} (hu : P.underlying t = some (.struct #[f0, f1, f2, f3, f4, f5])) (hone : Go.Deep.oneCellFields P #[f0, f1, f2, f3, f4, f5] = true) (hC : P.cellsOf t = 6)
    (t0 : P.underlying f0.type = some (.int .i64)) (t1 : P.underlying f1.type = some (.int .i64)) (t2 : P.underlying f2.type = some (.int .i64)) (hv : Value.okWide P W r b0 t v) (h : DataW.Trod enc P W base (fun _ => true) true t v d p) :
    ∃ (k Q N : Int) (v3 v4 v5 : Value) (y0 y1 y2 y3 y4 y5 : DataW H × List MemPlace) (n : Nat), v = .agg #[.int .i64 k, .int .i64 Q, .int .i64 N, v3, v4, v5] ∧ d = .agg [y0.1, y1.1, y2.1, y3.1, y4.1, y5.1] ∧
      DataW.trod enc P W base (fun _ => true) true n f3.type [v3] = some y3 ∧ DataW.trod enc P W base (fun _ => true) true n f4.type [v4] = some y4 ∧ DataW.trod enc P W base (fun _ => true) true n f5.type [v5] = some y5 := by
  obtain ⟨cs, rfl, hsz⟩ := okWide_struct hu hv
  obtain ⟨c0, c1, c2, c3, c4, c5, rfl⟩ := array6 (hsz.trans hC)
  obtain ⟨fuel, hf⟩ := h
  obtain ⟨xs, n, -, hx, -, hxl, hf⟩ := DataW.trod_struct hu hf
  obtain ⟨o0, k0⟩ := Go.Deep.hone_of hone 0 f0 rfl
  obtain ⟨o1, k1⟩ := Go.Deep.hone_of hone 1 f1 rfl
  obtain ⟨o2, k2⟩ := Go.Deep.hone_of hone 2 f2 rfl
  obtain ⟨o3, k3⟩ := Go.Deep.hone_of hone 3 f3 rfl
  obtain ⟨o4, k4⟩ := Go.Deep.hone_of hone 4 f4 rfl
  obtain ⟨o5, k5⟩ := Go.Deep.hone_of hone 5 f5 rfl
  match xs, hxl with
  | [y0, y1, y2, y3, y4, y5], _ =>
    have h0 := hf 0 f0 rfl
    have h1 := hf 1 f1 rfl
    have h2 := hf 2 f2 rfl
    have h3 := hf 3 f3 rfl
    have h4 := hf 4 f4 rfl
    have h5 := hf 5 f5 rfl
    simp only [Value.cells, o0, k0, o1, k1, o2, k2, o3, k3, o4, k4, o5, k5, List.drop_zero, List.drop_succ_cons, List.take_succ_cons, List.take_zero, List.getElem?_cons_zero, List.getElem?_cons_succ] at h0 h1 h2 h3 h4 h5
    obtain ⟨a, ha, -, -⟩ := DataW.trod_int t0 h0
    obtain ⟨b, hb, -, -⟩ := DataW.trod_int t1 h1
    obtain ⟨c, hc, -, -⟩ := DataW.trod_int t2 h2
    simp only [List.cons.injEq, and_true] at ha hb hc
    subst ha hb hc
    simp only [Prod.mk.injEq] at hx
    exact ⟨a, b, c, c3, c4, c5, y0, y1, y2, y3, y4, y5, n, rfl, hx.1, h3, h4, h5⟩
theorem open_claim {H : Type} {enc : TypeId × Value → H} {W : World} {base : Nat} {v : Value} {d : DataW H} {p : List MemPlace} (hv : Value.okWide Tryz.prog W .any base 40 v)
    (h : DataW.Trod enc Tryz.prog W 0 (fun _ => true) true 40 v d p)
    (hs : ∀ u0 u1 u2 x y z, d = .agg [u0, u1, u2, x, y, z] → (∀ elems spare, x = .slice elems spare → (elems.length + spare.length) * 8 ≤ 140737488351232) ∧ (∀ elems spare, y = .slice elems spare → (elems.length + spare.length) * 8 ≤ 140737488351232) ∧ (∀ elems spare, z = .slice elems spare → (elems.length + spare.length) * 8 ≤ 140737488351232)) :
    ∃ (k Q N : Int) (va vb vf : Value) (a b f : List Int), v = .agg #[.int .i64 k, .int .i64 Q, .int .i64 N, va, vb, vf] ∧ RI W va a ∧ RI W vb b ∧ RI W vf f := by
  obtain ⟨k, Q, N, v3, v4, v5, y0, y1, y2, y3, y4, y5, n, rfl, rfl, h3, h4, h5⟩ := claim_of' Tryz.underlying40 (by kernel_rfl) (by kernel_rfl) Tryz.underlying3 Tryz.underlying3 Tryz.underlying3 hv h
  obtain ⟨s0, s1, s2⟩ := hs _ _ _ _ _ _ rfl
  obtain ⟨x0, r0⟩ := ints_ofd h3 s0
  obtain ⟨x1, r1⟩ := ints_ofd h4 s1
  obtain ⟨x2, r2⟩ := ints_ofi h5 s2
  exact ⟨k, Q, N, v3, v4, v5, x0, x1, x2, rfl, r0, r1, r2⟩
theorem sized_claim {H : Type} {ts : List TypeId} {ds : List (DataW H)} (hsz : (DataW.weightsEach Tryz.prog ts ds).all (· ≤ reachBytes) = true) {j : Nat} {d : DataW H} (ht : ts[j]? = some 40) (hd : ds[j]? = some d) :
    ∀ u0 u1 u2 x y z, d = .agg [u0, u1, u2, x, y, z] → (∀ elems spare, x = .slice elems spare → (elems.length + spare.length) * 8 ≤ 140737488351232) ∧ (∀ elems spare, y = .slice elems spare → (elems.length + spare.length) * 8 ≤ 140737488351232) ∧ (∀ elems spare, z = .slice elems spare → (elems.length + spare.length) * 8 ≤ 140737488351232) := by
  intro u0 u1 u2 x y z e
  subst e
  refine ⟨fun elems spare e => ?_, fun elems spare e => ?_, fun elems spare e => ?_⟩
  all_goals
    subst e
    have := List.all_eq_true.1 hsz _ (DataW.weights_mem_each ht hd ((elems.length + spare.length) * Tryz.prog.bytesOf 3) (by simp [DataW.weights, DataW.weightsEach, Tryz.underlying40, Tryz.underlying38, Tryz.underlying37]))
    have h2 := of_decide_eq_true this
    rw [bytesInt_] at h2
    simp only [reachBytes] at h2
    omega
end Go.Proofs.YteamhbohgoclgaaGreatDoor

