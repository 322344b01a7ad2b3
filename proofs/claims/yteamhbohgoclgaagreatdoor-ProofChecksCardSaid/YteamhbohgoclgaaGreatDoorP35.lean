/- The law ProofChecks.
   From what the form hands over to the words of the walks: the rows of law57, with their claims, and the library's variables. -/
import Derived.Test.YteamhbohgoclgaaGreatDoorP34
import Derived.Test.YteamhbohgoclgaaGreatDoorP32
import Derived.Test.YteamhbohgoclgaaGreatDoorP17
import Derived.HandedShaped
import Derived.LaidMore
import Derived.Lay
import Derived.Stop.Joined
import Derived.Stop.LaidErr
import Derived.Test.YteamhbohgoclgaaGreatDoorCards
import Derived.Test.YteamhbohgoclgaaGreatDoorTie
set_option maxRecDepth 100000
set_option maxHeartbeats 16000000
namespace Go.Proofs.YteamhbohgoclgaaGreatDoor
open Go.RowKit Go.Shelf

theorem CV.one (w : World) (kk Q N : Int) (va vb vf : Value) (a b f : List Int) (ha : RI w va a) (hb : RI w vb b) (hf : RI w vf f) :
    CV (w.alloc (.cells #[.int .i64 kk, .int .i64 Q, .int .i64 N, va, vb, vf] 40)) (.slice (some ⟨w.heap.size, 0, none⟩) 1 1) [(kk, Q, N, a, b, f)] := by
  have hbl := below_alloc w (.cells #[.int .i64 kk, .int .i64 Q, .int .i64 N, va, vb, vf] 40)
  have hx := BL.new' w #[.int .i64 kk, .int .i64 Q, .int .i64 N, va, vb, vf] 40
  refine ⟨some ⟨w.heap.size, 0, none⟩, 1, rfl, by simp, by simp, fun k hk => ?_⟩
  obtain rfl : k = 0 := by simp at hk; omega
  rw [Nat.zero_mul]
  refine ⟨⟨w.heap.size, 0, none⟩, (kk, Q, N, a, b, f), va, vb, vf, rfl, by simp, rfl, ?_, ?_, ?_, ?_, ?_, ?_, RI.below ha hbl, RI.below hb hbl, RI.below hf hbl⟩
  · rw [add_zero']; exact hx.cell 0
  · rw [add_zero']; exact hx.cell 1
  · rw [add_zero']; exact hx.cell 2
  · rw [add_zero']; exact hx.cell 3
  · rw [add_zero']; exact hx.cell 4
  · rw [add_zero']; exact hx.cell 5
theorem checksLaw_any (g va vb vf : Value) (n : Int) (kk Q N : Int) (es : List Tri) (a b f : List Int) (w : World) (hg : GV w g n es) (ha : RI w va a) (hb : RI w vb b) (hf : RI w vf f) (hlv : LV w) (ht : TB w) :
    Calls Tryz.prog 4 #[g, .agg #[.int .i64 kk, .int .i64 Q, .int .i64 N, va, vb, vf]] w fun e w' => e = .returned (.bool true) ∧ Below w.heap.size w w' := by
  have HA := Hd ha
  have HD := Hd hb
  have HF := Hd hf
  have HLV := Hd hlv
  have HT := Hd ht
  obtain ⟨A, c, rfl, -⟩ := hg.open_
  obtain ⟨W0, hW0⟩ : ∃ W0, W0 = (w.alloc (.cells #[.int .i64 n, .slice A es.length c] 25)).alloc (.cells #[.int .i64 kk, .int .i64 Q, .int .i64 N, va, vb, vf] 40) := ⟨_, rfl⟩
  have hb0 : Below w.heap.size w W0 := by rw [hW0]; exact (below_alloc w _).alloc (by simp) _
  have hxg : BL W0 w.heap.size 25 [.int .i64 n, .slice A es.length c] := by rw [hW0]; exact (BL.new' w _ _).alloc _
  have hxc : BL W0 (w.heap.size + 1) 40 [.int .i64 kk, .int .i64 Q, .int .i64 N, va, vb, vf] := by
    rw [hW0]
    have := BL.new' (w.alloc (.cells #[.int .i64 n, .slice A es.length c] 25)) #[.int .i64 kk, .int .i64 Q, .int .i64 N, va, vb, vf] 40
    rwa [World.size_alloc] at this
  have HXg := Hd hxg
  have HXc := Hd hxc
  have HG0 := Hd (hg.below hb0)
  have HB0 := Hd hb0
  have HW0 := Hd hW0
  clear hg hxg hxc hW0 hb0
  obtain ⟨Aa, ca, rfl, -⟩ := ha.open_
  obtain ⟨Ab, cb, rfl, -⟩ := hb.open_
  obtain ⟨Af, cf, rfl, -⟩ := hf.open_
  have HBt : Hid (∀ W, Below W0.heap.size W0 W → Below w.heap.size w W) := fun W h => HB0.out.trans (h.mono HB0.out.size)
  have HAw : Hid (∀ W, Below W0.heap.size W0 W → Calls Tryz.prog 6 #[] W fun e w' => e = .returned (.bool true) ∧ Below W.heap.size W w') := fun W h => awake57_any W (HLV.out.below (HBt.out W h)) (HT.out.below (HBt.out W h))
  have HFe := Hd (rFew8_any _ n es W0 HG0.out)
  have HPc : Hid (∀ W, Below W0.heap.size W0 W → Calls Tryz.prog 14 #[.agg #[.int .i64 n, .slice A es.length c], .agg #[.int .i64 kk, .int .i64 Q, .int .i64 N, .slice Aa a.length ca, .slice Ab b.length cb, .slice Af f.length cf]] W fun e w' => e = .returned (.tuple #[strV (if chkC n es kk Q N a b f = 0 then txtS kk.toNat Q N a b f else []), .int .i64 (chkC n es kk Q N a b f)]) ∧ Below W.heap.size W w') := fun W h =>
    pClaimed_any _ _ _ _ n kk Q N es a b f W (HG0.out.below h) (RI.below HA.out (HBt.out W h)) (RI.below HD.out (HBt.out W h)) (RI.below HF.out (HBt.out W h)) (HT.out.below (HBt.out W h))
  have HRc : Hid (∀ W, Below W0.heap.size W0 W → Calls Tryz.prog 15 #[.agg #[.int .i64 n, .slice A es.length c], .agg #[.int .i64 kk, .int .i64 Q, .int .i64 N, .slice Aa a.length ca, .slice Ab b.length cb, .slice Af f.length cf]] W fun e w' => e = .returned (.tuple #[strV (if chkC n es kk Q N a b f = 0 then txtS kk.toNat Q N a b f else []), .int .i64 (chkC n es kk Q N a b f)]) ∧ Below W.heap.size W w') := fun W h =>
    rClaimed_any _ _ _ _ n kk Q N es a b f W (HG0.out.below h) (RI.below HA.out (HBt.out W h)) (RI.below HD.out (HBt.out W h)) (RI.below HF.out (HBt.out W h))
  have HPk : Hid (∀ W, Below W0.heap.size W0 W → Calls Tryz.prog 16 #[.agg #[.int .i64 n, .slice A es.length c], .agg #[.int .i64 kk, .int .i64 Q, .int .i64 N, .slice Aa a.length ca, .slice Ab b.length cb, .slice Af f.length cf]] W fun e w' => e = .returned (.int .i64 (chkC n es kk Q N a b f)) ∧ Below W.heap.size W w') := fun W h =>
    pCheck_any _ _ _ _ n kk Q N es a b f W (HG0.out.below h) (RI.below HA.out (HBt.out W h)) (RI.below HD.out (HBt.out W h)) (RI.below HF.out (HBt.out W h))
  have HRk : Hid (∀ W, Below W0.heap.size W0 W → Calls Tryz.prog 17 #[.agg #[.int .i64 n, .slice A es.length c], .agg #[.int .i64 kk, .int .i64 Q, .int .i64 N, .slice Aa a.length ca, .slice Ab b.length cb, .slice Af f.length cf]] W fun e w' => e = .returned (.int .i64 (chkC n es kk Q N a b f)) ∧ Below W.heap.size W w') := fun W h =>
    rCheck57_any _ _ _ _ n kk Q N es a b f W (HG0.out.below h) (RI.below HA.out (HBt.out W h)) (RI.below HD.out (HBt.out W h)) (RI.below HF.out (HBt.out W h))
  have HCv : Hid (∀ w2, Below W0.heap.size W0 w2 → CV (w2.alloc (.cells #[.int .i64 kk, .int .i64 Q, .int .i64 N, .slice Aa a.length ca, .slice Ab b.length cb, .slice Af f.length cf] 40)) (.slice (some ⟨w2.heap.size, 0, none⟩) 1 1) [(kk, Q, N, a, b, f)]) := fun w2 h =>
    CV.one w2 kk Q N _ _ _ a b f (RI.below HA.out (HBt.out w2 h)) (RI.below HD.out (HBt.out w2 h)) (RI.below HF.out (HBt.out w2 h))
  clear ha hb hf hlv ht
  obtain ⟨S, hS⟩ : ∃ S : ByteArray, strV (if chkC n es kk Q N a b f = 0 then txtS kk.toNat Q N a b f else []) = .string S := ⟨_, rfl⟩
  simp only [hS] at HPc HRc
  clear hS
  generalize chkC n es kk Q N a b f = E at *
  generalize fewB n es = FB at *
  generalize a.length = la at *
  generalize b.length = lb at *
  generalize f.length = lf at *
  have g0 := HXg.out.cell 0
  have g1 := HXg.out.cell 1
  go_enter Tryz.func4, Tryz.ntmps4
  go_upto_region 1 with fail
  rw [← HW0.out]
  go_wp2_with fail
  refine HFe.out.mono ?_
  rintro e w2 ⟨rfl, hb2⟩
  have HB2 := Hd hb2
  have HXc2 := Hd (HXc.out.bel hb2)
  clear hb2 HFe g0 g1
  cases FB
  · have HA2 := Hd (HAw.out w2 HB2.out)
    go_wp2_with fail
    refine HA2.out.mono ?_
    rintro e w3 ⟨rfl, hb3⟩
    have HB3 := Hd (HB2.out.trans (hb3.mono HB2.out.size))
    clear hb3
    go_wp2
    go_ret
    exact ⟨rfl, HBt.out _ HB3.out⟩
  have d0 := HXc2.out.cell 0
  have d1 := HXc2.out.cell 1
  have d2 := HXc2.out.cell 2
  have d3 := HXc2.out.cell 3
  have d4 := HXc2.out.cell 4
  have d5 := HXc2.out.cell 5
  obtain ⟨W3, hW3⟩ : ∃ W, W = w2.alloc (.cells #[.int .i64 kk, .int .i64 Q, .int .i64 N, .slice Aa la ca, .slice Ab lb cb, .slice Af lf cf] 40) := ⟨_, rfl⟩
  have hb3 : Below w2.heap.size w2 W3 := by rw [hW3]; exact below_alloc w2 _
  have HFw := Hd (few57_any _ [(kk, Q, N, a, b, f)] W3 (by rw [hW3]; exact HCv.out w2 HB2.out))
  have HB3 := Hd (HB2.out.trans (hb3.mono HB2.out.size))
  have HW3 := Hd hW3
  generalize (!([(kk, Q, N, a, b, f)].any bigC)) = FC at *
  clear hb3 hW3 HCv HXc2
  go_wp2_with fail
  rw [← HW3.out]
  refine HFw.out.mono ?_
  rintro e w4 ⟨rfl, hb4⟩
  have HB4 := Hd (HB3.out.trans (hb4.mono HB3.out.size))
  clear hb4 HFw d0 d1 d2 d3 d4 d5
  cases FC
  · have HA4 := Hd (HAw.out w4 HB4.out)
    go_wp2_with fail
    refine HA4.out.mono ?_
    rintro e w5 ⟨rfl, hb5⟩
    have HB5 := Hd (HB4.out.trans (hb5.mono HB4.out.size))
    clear hb5
    go_wp2
    go_ret
    exact ⟨rfl, HBt.out _ HB5.out⟩
  have HKp : Hid (∀ W : World, Below W0.heap.size W0 W → (fun W' : World => (W'.cell? ⟨w.heap.size, 0, none⟩ = some (.int .i64 n) ∧ W'.cell? ⟨w.heap.size, 1, none⟩ = some (.slice A es.length c)) ∧ W'.cell? ⟨w.heap.size + 1, 0, none⟩ = some (.int .i64 kk) ∧ W'.cell? ⟨w.heap.size + 1, 1, none⟩ = some (.int .i64 Q) ∧ W'.cell? ⟨w.heap.size + 1, 2, none⟩ = some (.int .i64 N) ∧ W'.cell? ⟨w.heap.size + 1, 3, none⟩ = some (.slice Aa la ca) ∧ W'.cell? ⟨w.heap.size + 1, 4, none⟩ = some (.slice Ab lb cb) ∧ W'.cell? ⟨w.heap.size + 1, 5, none⟩ = some (.slice Af lf cf)) W) := fun W h =>
    ⟨⟨(HXg.out.bel h).cell 0, (HXg.out.bel h).cell 1⟩, (HXc.out.bel h).cell 0, (HXc.out.bel h).cell 1, (HXc.out.bel h).cell 2, (HXc.out.bel h).cell 3, (HXc.out.bel h).cell 4, (HXc.out.bel h).cell 5⟩
  obtain ⟨⟨g0, g1⟩, d0, d1, d2, d3, d4, d5⟩ := HKp.out w4 HB4.out
  have HP4 := Hd (HPc.out w4 HB4.out)
  go_wp2_with fail
  refine HP4.out.mono ?_
  rintro e w5 ⟨rfl, hb5⟩
  have HB5 := Hd (HB4.out.trans (hb5.mono HB4.out.size))
  clear hb5 HP4 g0 g1 d0 d1 d2 d3 d4 d5
  obtain ⟨⟨g0, g1⟩, d0, d1, d2, d3, d4, d5⟩ := HKp.out w5 HB5.out
  have HR5 := Hd (HRc.out w5 HB5.out)
  go_wp2_with fail
  refine HR5.out.mono ?_
  rintro e w6 ⟨rfl, hb6⟩
  have HB6 := Hd (HB5.out.trans (hb6.mono HB5.out.size))
  clear hb6 HR5 g0 g1 d0 d1 d2 d3 d4 d5
  have HBc := Hd (HB6.out.drew)
  have HSc := Hd (HKp.out _ HBc.out)
  have hEE : (E == E) = true := by simp
  have hSS : (S.toList == S.toList) = true := by simp
  go_wp2_with fail
  go_region_held3 (fun W' : World => (W'.cell? ⟨w.heap.size, 0, none⟩ = some (.int .i64 n) ∧ W'.cell? ⟨w.heap.size, 1, none⟩ = some (.slice A es.length c)) ∧ W'.cell? ⟨w.heap.size + 1, 0, none⟩ = some (.int .i64 kk) ∧ W'.cell? ⟨w.heap.size + 1, 1, none⟩ = some (.int .i64 Q) ∧ W'.cell? ⟨w.heap.size + 1, 2, none⟩ = some (.int .i64 N) ∧ W'.cell? ⟨w.heap.size + 1, 3, none⟩ = some (.slice Aa la ca) ∧ W'.cell? ⟨w.heap.size + 1, 4, none⟩ = some (.slice Ab lb cb) ∧ W'.cell? ⟨w.heap.size + 1, 5, none⟩ = some (.slice Af lf cf)) (first | exact HSc.out)
    (first
      | (go_at_call 16; (with_reducible refine (HPk.out _ HBc.out).mono ?_); rintro e wx ⟨rfl, hbx⟩; have HBc := Hd (HBc.out.trans (hbx.mono HBc.out.size)); have HSc := Hd (HKp.out _ HBc.out); clear hbx)
      | (go_at_call 17; (with_reducible refine (HRk.out _ HBc.out).mono ?_); rintro e wx ⟨rfl, hbx⟩; have HBc := Hd (HBc.out.trans (hbx.mono HBc.out.size)); have HSc := Hd (HKp.out _ HBc.out); clear hbx)
      | (go_at_call 6; (with_reducible refine (HAw.out _ HBc.out).mono ?_); rintro e wx ⟨rfl, hbx⟩; have HBc := Hd (HBc.out.trans (hbx.mono HBc.out.size)); have HSc := Hd (HKp.out _ HBc.out); clear hbx))
  all_goals
    go_wp2
    go_ret
    exact ⟨rfl, HBt.out _ HBc.out⟩
open Go.ChangeShapes Go.WideShapes Go.ChangeAt Go.RowKit Go.Shelf

/-- A row that lists variables, with the world's shape for the contract. -/
theorem returns_laid_shaped {H : Type} {enc : TypeId × Value → H} {a : Assume} {C : Checked} {os : Os} {f : FuncId} {fn : Func} {s : ChangeSpec} {conds : List PathCond} {apart fresh handsOn again : Bool} {X : World → Array Value → Prop}
    (hX : ∀ (w w' : World) (args : Array Value), w.heap = w'.heap → X w args → X w' args)
    (own : ownKnob C.prog.godebug = none) (started : os.Started) (noInit : C.prog.inits.idxOf? f = none) (hfn : C.prog.funcs[f]? = some fn)
    (witness : ∃ (w : World) (tape : Tape) (i : Input), w.os = os ∧ (w.forCall tape i).Shaped C.prog ∧ i.vars = [] ∧ Input.okWide C.prog (w.forCall tape i) .any w.heap.size f i ∧
      ((s.pre enc C.prog fn conds apart (w.forCall tape i).memory i.args ∧ X (w.forCall tape i).memory i.args) ∧ sizedMet enc C.prog fn (OpenSpec.ofChange s) apart (w.forCall tape i).memory i.args) ∧ a.holds C.prog (lone (Frame.enter C.prog f i.args .normal) [] (w.forCall tape i)))
    (contract : ∀ (W : World) (base : Nat) (args : Array Value) (ds gs : List (DataW H)) (before : List MemPlace),
      (∀ (j : Nat) t v, fn.params[j]? = some t → args[j]? = some v → Value.okWide C.prog W .any base t v) →
      DataW.Whole enc C.prog fn.params.toList s.vars apart W args.toList ds gs before →
      (DataW.weightsEach C.prog (fn.params.toList ++ s.plain.varTypes C.prog) (ds ++ gs)).all (· ≤ reachBytes) = true → X W args → W.ShapedOpen C.prog →
      Calls C.prog f args W fun e W' => ∃ v, e = .returned v ∧ s.post enc C.prog fn apart fresh handsOn again W args v W') :
    ReturnsInHanded a C os f .any (fun w args => (s.pre enc C.prog fn conds apart w args ∧ X w args) ∧ sizedMet enc C.prog fn (OpenSpec.ofChange s) apart w args) (s.post enc C.prog fn apart fresh handsOn again) := by
  refine returnsInHanded_of_calls own started noInit witness ?_
  intro w tape i _ hsh _ hok hpre _
  obtain ⟨_, _, _, fn', hfn', _, _, _, _, hval⟩ := hok
  have e : fn' = fn := Option.some.inj (hfn'.symm.trans hfn)
  subst e
  obtain ⟨⟨⟨ds, gs, before, hw, -⟩, hx⟩, hz⟩ := hpre
  have hw' := DataW.Whole.of_heap (w' := w.forCall tape i) (by rfl) hw
  refine (contract (w.forCall tape i) w.heap.size i.args ds gs before hval hw' (hz.weights hw) (hX _ _ _ (by rfl) hx) hsh).mono fun e W' ⟨v, he, hp⟩ => ?_
  subst he
  exact ChangeSpec.post_blind hp
theorem gRange_ : Tryz.prog.globalNamed "strconv.ErrRange" = some 5 := by kernel_rfl
theorem tRange_ : (Tryz.prog.globals[5]?).map (·.type) = some 144 := by kernel_rfl
theorem star_ : "*errors.errorString" = "*" ++ "errors.errorString" := by decide
theorem rowErr_ : ∀ u, Tryz.prog.typeName? 3 u = some "*errors.errorString" → u = 423 := fun u h =>
  typeName_ptr_named (nm := "errors.errorString") (by rw [← star_]; kernel_rfl) (by kernel_rfl) (by decide) u (by rw [← star_]; exact h)
/-- The listed data. -/
abbrev laid57 : List (String × DataW Unit) := Rows.proofReadsRow.laid
theorem lv_of_laid {W : World} (hL : laidMetH Tryz.prog laid57 W) (hsh : W.ShapedOpen Tryz.prog) : LV W := by
  rw [MakeChecks.laidMetH_plain _ _ _ (by kernel_rfl)] at hL
  refine ⟨cell_of_shapedOpen_int (P := Tryz.prog) (g := 0) (t := 3) (zero := #[.int .i64 0]) hsh (of_decide_eq_true (by kernel_rfl)) (by kernel_rfl) rfl (by kernel_rfl) (by kernel_rfl) Tryz.underlying3, ?_⟩
  have h4 := hL.tail.tail.tail.tail
  obtain ⟨a, s, hv, -, -, -⟩ := laid_sentinel h4 gRange_ tRange_ Tryz.underlying144 rowErr_ Tryz.underlying423 Tryz.underlying425 rfl rfl Tryz.underlying9 (by kernel_rfl) (by kernel_rfl)
  have hc := World.var?_cell gRange_ hv 0
  exact ⟨_, by simpa using hc, .inr ⟨_, _, rfl⟩⟩
theorem gPow_ : Tryz.prog.globalNamed "internal/strconv.uint64pow10" = some 3 := by kernel_rfl
theorem tPow_ : (Tryz.prog.globals[3]?).map (·.type) = some 378 := by kernel_rfl
theorem tb_of_laid {W : World} (hL : laidMetH Tryz.prog laid57 W) : TB W := by
  rw [MakeChecks.laidMetH_plain _ _ _ (by kernel_rfl)] at hL
  exact Go.Lib.tabIs_of_head gPow_ tPow_ Tryz.underlying378 Tryz.underlying325 (by kernel_rfl) (by kernel_rfl) hL.tail.tail
theorem ints_ofd {H : Type} {enc : TypeId × Value → H} {W : World} {fuel : Nat} {v : Value} {x : DataW H × List MemPlace} (h : DataW.trod enc Tryz.prog W 0 (fun _ => true) true fuel 38 [v] = some x)
    (hs : ∀ elems spare, x.1 = .slice elems spare → (elems.length + spare.length) * 8 ≤ 140737488351232) : ∃ zs, RI W v zs := by
  rcases open_ints Tryz.underlying38 Tryz.underlying3 cellsInt_ h with ⟨hcs, -⟩ | ⟨a, len, cap, zs, hcs, _, hl, hm, hz, hx, hcell, _⟩
  · simp only [List.cons.injEq, and_true] at hcs
    subst hcs
    exact ⟨[], RI.nil_ W⟩
  · simp only [List.cons.injEq, and_true] at hcs
    subst hcs
    simp only [if_true] at hz
    have hreach := hs _ _ (by rw [hx])
    simp only [lits, List.length_map, List.length_take, List.length_drop] at hreach
    have hlen : (zs.take len).length = len := by rw [List.length_take]; omega
    refine ⟨zs.take len, ?_⟩
    have key := RI.mk_ (w := W) (A := some a) (c := cap) (zs := zs.take len) (by omega) (by omega) fun k z hk => ?_
    · rw [hlen] at key; exact key
    · have hk2 : k < (zs.take len).length := (List.getElem?_eq_some_iff.1 hk).1
      have hkz : k < zs.length := by omega
      have hc := hcell k hkz
      have e : zs.getD k 0 = z := by
        rw [List.getElem?_take, if_pos (by omega)] at hk
        rw [List.getD_eq_getElem?_getD, hk]; rfl
      rw [e] at hc
      exact ⟨a, rfl, by have := block_lt_of_cell' hc; rwa [block_of_add] at this, hc⟩
theorem ints_ofi {H : Type} {enc : TypeId × Value → H} {W : World} {fuel : Nat} {v : Value} {x : DataW H × List MemPlace} (h : DataW.trod enc Tryz.prog W 0 (fun _ => true) true fuel 37 [v] = some x)
    (hs : ∀ elems spare, x.1 = .slice elems spare → (elems.length + spare.length) * 8 ≤ 140737488351232) : ∃ zs, RI W v zs := by
  rcases open_ints Tryz.underlying37 Tryz.underlying3 cellsInt_ h with ⟨hcs, -⟩ | ⟨a, len, cap, zs, hcs, _, hl, hm, hz, hx, hcell, _⟩
  · simp only [List.cons.injEq, and_true] at hcs
    subst hcs
    exact ⟨[], RI.nil_ W⟩
  · simp only [List.cons.injEq, and_true] at hcs
    subst hcs
    simp only [if_true] at hz
    have hreach := hs _ _ (by rw [hx])
    simp only [lits, List.length_map, List.length_take, List.length_drop] at hreach
    have hlen : (zs.take len).length = len := by rw [List.length_take]; omega
    refine ⟨zs.take len, ?_⟩
    have key := RI.mk_ (w := W) (A := some a) (c := cap) (zs := zs.take len) (by omega) (by omega) fun k z hk => ?_
    · rw [hlen] at key; exact key
    · have hk2 : k < (zs.take len).length := (List.getElem?_eq_some_iff.1 hk).1
      have hkz : k < zs.length := by omega
      have hc := hcell k hkz
      have e : zs.getD k 0 = z := by
        rw [List.getElem?_take, if_pos (by omega)] at hk
        rw [List.getD_eq_getElem?_getD, hk]; rfl
      rw [e] at hc
      exact ⟨a, rfl, by have := block_lt_of_cell' hc; rwa [block_of_add] at this, hc⟩
theorem array6 {cs : Array Value} (h : cs.size = 6) : ∃ c0 c1 c2 c3 c4 c5, cs = #[c0, c1, c2, c3, c4, c5] := by
  obtain ⟨l⟩ := cs
  match l, h with
  | [c0, c1, c2, c3, c4, c5], _ => exact ⟨c0, c1, c2, c3, c4, c5, rfl⟩
/-- A claim out of its six cells. -/
theorem claim_of' {H : Type} {enc : TypeId × Value → H} {P : Program} {W : World} {t : TypeId} {base b0 : Nat} {r : Reach} {f0 f1 f2 f3 f4 f5 : Field} {v : Value} {d : DataW H} {p : List MemPlace} (hu : P.underlying t = some (.struct #[f0, f1, f2, f3, f4, f5])) (hone : Go.Deep.oneCellFields P #[f0, f1, f2, f3, f4, f5] = true) (hC : P.cellsOf t = 6)
    (t0 : P.underlying f0.type = some (.int .i64)) (t1 : P.underlying f1.type = some (.int .i64)) (t2 : P.underlying f2.type = some (.int .i64)) (hv : Value.okWide P W r b0 t v) (h : DataW.Trod enc P W base (fun _ => true) true t v d p) :
    ∃ (k Q N : Int) (v3 v4 v5 : Value) (y0 y1 y2 y3 y4 y5 : DataW H × List MemPlace) (n : Nat), v = .agg #[.int .i64 k, .int .i64 Q, .int .i64 N, v3, v4, v5] ∧ d = .agg [y0.1, y1.1, y2.1, y3.1, y4.1, y5.1] ∧
      DataW.trod enc P W base (fun _ => true) true n f3.type [v3] = some y3 ∧ DataW.trod enc P W base (fun _ => true) true n f4.type [v4] = some y4 ∧ DataW.trod enc P W base (fun _ => true) true n f5.type [v5] = some y5 := by
  obtain ⟨cs, rfl, hsz⟩ := okWide_struct hu hv
  obtain ⟨c0, c1, c2, c3, c4, c5, rfl⟩ := array6 (hsz.trans hC)
  obtain ⟨fuel, hf⟩ := h
  obtain ⟨xs, n, -, hx, -, hxl, hf⟩ := DataW.trod_struct hu hf
  obtain ⟨o0, k0⟩ := Go.Deep.hone_of hone 0 f0 rfl
  obtain ⟨o1, k1⟩ := Go.Deep.hone_of hone 1 f1 rfl
  obtain ⟨o2, k2⟩ := Go.Deep.hone_of hone 2 f2 rfl
  obtain ⟨o3, k3⟩ := Go.Deep.hone_of hone 3 f3 rfl
  obtain ⟨o4, k4⟩ := Go.Deep.hone_of hone 4 f4 rfl
  obtain ⟨o5, k5⟩ := Go.Deep.hone_of hone 5 f5 rfl
  match xs, hxl with
  | [y0, y1, y2, y3, y4, y5], _ =>
    have h0 := hf 0 f0 rfl
    have h1 := hf 1 f1 rfl
    have h2 := hf 2 f2 rfl
    have h3 := hf 3 f3 rfl
    have h4 := hf 4 f4 rfl
    have h5 := hf 5 f5 rfl
    simp only [Value.cells, o0, k0, o1, k1, o2, k2, o3, k3, o4, k4, o5, k5, List.drop_zero, List.drop_succ_cons, List.take_succ_cons, List.take_zero, List.getElem?_cons_zero, List.getElem?_cons_succ] at h0 h1 h2 h3 h4 h5
    obtain ⟨a, ha, -, -⟩ := DataW.trod_int t0 h0
    obtain ⟨b, hb, -, -⟩ := DataW.trod_int t1 h1
    obtain ⟨c, hc, -, -⟩ := DataW.trod_int t2 h2
    simp only [List.cons.injEq, and_true] at ha hb hc
    subst ha hb hc
    simp only [Prod.mk.injEq] at hx
    exact ⟨a, b, c, c3, c4, c5, y0, y1, y2, y3, y4, y5, n, rfl, hx.1, h3, h4, h5⟩
theorem open_claim {H : Type} {enc : TypeId × Value → H} {W : World} {base : Nat} {v : Value} {d : DataW H} {p : List MemPlace} (hv : Value.okWide Tryz.prog W .any base 40 v)
    (h : DataW.Trod enc Tryz.prog W 0 (fun _ => true) true 40 v d p)
    (hs : ∀ u0 u1 u2 x y z, d = .agg [u0, u1, u2, x, y, z] → (∀ elems spare, x = .slice elems spare → (elems.length + spare.length) * 8 ≤ 140737488351232) ∧ (∀ elems spare, y = .slice elems spare → (elems.length + spare.length) * 8 ≤ 140737488351232) ∧ (∀ elems spare, z = .slice elems spare → (elems.length + spare.length) * 8 ≤ 140737488351232)) :
    ∃ (k Q N : Int) (va vb vf : Value) (a b f : List Int), v = .agg #[.int .i64 k, .int .i64 Q, .int .i64 N, va, vb, vf] ∧ RI W va a ∧ RI W vb b ∧ RI W vf f := by
  obtain ⟨k, Q, N, v3, v4, v5, y0, y1, y2, y3, y4, y5, n, rfl, rfl, h3, h4, h5⟩ := claim_of' Tryz.underlying40 (by kernel_rfl) (by kernel_rfl) Tryz.underlying3 Tryz.underlying3 Tryz.underlying3 hv h
  obtain ⟨s0, s1, s2⟩ := hs _ _ _ _ _ _ rfl
  obtain ⟨x0, r0⟩ := ints_ofd h3 s0
  obtain ⟨x1, r1⟩ := ints_ofd h4 s1
  obtain ⟨x2, r2⟩ := ints_ofi h5 s2
  exact ⟨k, Q, N, v3, v4, v5, x0, x1, x2, rfl, r0, r1, r2⟩
theorem sized_claim {H : Type} {ts : List TypeId} {ds : List (DataW H)} (hsz : (DataW.weightsEach Tryz.prog ts ds).all (· ≤ reachBytes) = true) {j : Nat} {d : DataW H} (ht : ts[j]? = some 40) (hd : ds[j]? = some d) :
    ∀ u0 u1 u2 x y z, d = .agg [u0, u1, u2, x, y, z] → (∀ elems spare, x = .slice elems spare → (elems.length + spare.length) * 8 ≤ 140737488351232) ∧ (∀ elems spare, y = .slice elems spare → (elems.length + spare.length) * 8 ≤ 140737488351232) ∧ (∀ elems spare, z = .slice elems spare → (elems.length + spare.length) * 8 ≤ 140737488351232) := by
  intro u0 u1 u2 x y z e
  subst e
  refine ⟨fun elems spare e => ?_, fun elems spare e => ?_, fun elems spare e => ?_⟩
  all_goals
    subst e
    have := List.all_eq_true.1 hsz _ (DataW.weights_mem_each ht hd ((elems.length + spare.length) * Tryz.prog.bytesOf 3) (by simp [DataW.weights, DataW.weightsEach, Tryz.underlying40, Tryz.underlying38, Tryz.underlying37]))
    have h2 := of_decide_eq_true this
    rw [bytesInt_] at h2
    simp only [reachBytes] at h2
    omega
end Go.Proofs.YteamhbohgoclgaaGreatDoor

