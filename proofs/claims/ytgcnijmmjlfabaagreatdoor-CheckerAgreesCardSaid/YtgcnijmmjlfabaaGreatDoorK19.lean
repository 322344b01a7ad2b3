/- Contract of slices.IndexFunc at the kinds.
   Contracts of the checker's kinds: what proves them.
   Contract of what proves that chips are recurrent.
   What the checker answers to a line, in plain Lean. -/
import Derived.Test.YtgcnijmmjlfabaaGreatDoorK18
import Derived.Test.YtgcnijmmjlfabaaGreatDoorK15
set_option maxRecDepth 100000
set_option maxHeartbeats 16000000
namespace Go.Proofs.YtgcnijmmjlfabaaGreatDoor
open Go.RowKit Go.Shelf

/-- The kinds in memory. -/
def KA (w : World) (ad : Addr) : Prop := ad.block < w.heap.size ∧ ∀ k, k < 9 → ∃ S : ByteArray, S.toList = kwL.getD k [] ∧ w.cell? (ad.add (k * 8)) = some (.string S) ∧ w.cell? ⟨(ad.add (k * 8)).block, (ad.add (k * 8)).off + 1, none⟩ = some (.bool (kq k)) ∧ w.cell? ⟨(ad.add (k * 8)).block, (ad.add (k * 8)).off + 2, none⟩ = some (.bool (kn k)) ∧ w.cell? ⟨(ad.add (k * 8)).block, (ad.add (k * 8)).off + 3, none⟩ = some (.bool (ka k)) ∧
  w.cell? ⟨(ad.add (k * 8)).block, (ad.add (k * 8)).off + 4, none⟩ = some (.bool (kb k)) ∧ w.cell? ⟨(ad.add (k * 8)).block, (ad.add (k * 8)).off + 5, none⟩ = some (.bool (kf k)) ∧ w.cell? ⟨(ad.add (k * 8)).block, (ad.add (k * 8)).off + 6, none⟩ = some (.int .i64 (kl k)) ∧ w.cell? ⟨(ad.add (k * 8)).block, (ad.add (k * 8)).off + 7, none⟩ = some (kp k)
theorem KA.bel {w w' : World} {ad : Addr} (h : KA w ad) (hb : Below w.heap.size w w') : KA w' ad := by
  obtain ⟨h0, h1⟩ := h
  have hx : ∀ (k j : Nat) (v : Value), w.cell? ⟨(ad.add (k * 8)).block, (ad.add (k * 8)).off + j, none⟩ = some v → w'.cell? ⟨(ad.add (k * 8)).block, (ad.add (k * 8)).off + j, none⟩ = some v := fun k j v h => (hb.cell (by show (ad.add (k * 8)).block < _; rw [block_of_add]; exact h0)).trans h
  refine ⟨by have := hb.size; omega, fun k hk => ?_⟩
  obtain ⟨S, hS, c0, c1, c2, c3, c4, c5, c6, c7⟩ := h1 k hk
  exact ⟨S, hS, (hb.cell (by rw [block_of_add]; exact h0)).trans c0, hx _ _ _ c1, hx _ _ _ c2, hx _ _ _ c3, hx _ _ _ c4, hx _ _ _ c5, hx _ _ _ c6, hx _ _ _ c7⟩
theorem kindsL_at : ∀ k, k < 9 → ∀ j, j < 8 → kindsL[k * 8 + j]? = (kc k)[j]? := by
  intro k hk
  match k, hk with
  | 0, _ | 1, _ | 2, _ | 3, _ | 4, _ | 5, _ | 6, _ | 7, _ | 8, _ =>
    intro j hj
    match j, hj with
    | 0, _ | 1, _ | 2, _ | 3, _ | 4, _ | 5, _ | 6, _ | 7, _ => rfl
theorem addr_addz (b k : Nat) : (⟨b, 0, none⟩ : Addr).add k = ⟨b, k, none⟩ := by
  unfold Addr.add
  split
  · rename_i h; rw [h]
  · simp
theorem KA.of {w : World} {b : Nat} (h : BL w b 78 kindsL) : KA w ⟨b, 0, none⟩ := by
  refine ⟨h.lt, fun k hk => ?_⟩
  have hx : ∀ j, j < 8 → w.cell? ⟨b, k * 8 + j, none⟩ = (kc k)[j]? := fun j hj => (h.cell _).trans (kindsL_at k hk j hj)
  rw [addr_addz]
  exact ⟨_, ByteArray.toList_mk _, hx 0 (by omega), hx 1 (by omega), hx 2 (by omega), hx 3 (by omega), hx 4 (by omega), hx 5 (by omega), hx 6 (by omega), hx 7 (by omega)⟩
theorem kFind_any (ad ad2 : Addr) (b n c : Nat) (s0 : List UInt8) (w : World) (hk : KA w ad) (hb : BL w b 36 [.slice (some ad2) n c]) (hn : 0 < n) (h0 : w.cell? ad2 = some (strV s0)) :
    Calls Tryz.prog 44 #[.slice (some ad) 9 9, .func (.func 45) #[] #[.pointer (some ⟨b, 0, none⟩)]] w fun e w' => e = .returned (.int .i64 (idxG s0 kwL)) ∧ Below w.heap.size w w' := by
  have HK := Lib.hid hk
  have HB := Lib.hid hb
  have H0 := Lib.hid h0
  clear hk hb h0
  go_enter Tryz.func44, Tryz.ntmps44
  go_wp2
  go_loopw [8] (fun i wr => ∃ k : Nat, k ≤ 9 ∧ i = .int .i64 k ∧ Hid (idxG s0 kwL = if idxG s0 (kwL.drop k) < 0 then -1 else idxG s0 (kwL.drop k) + k) ∧ Hid (Below w.heap.size w wr)) (fun i _ => 9 - (intOf i).toNat)
  case atStart => exact ⟨0, Nat.zero_le _, rfl, by show _ = _; have := idxG_lo s0 kwL; simp only [List.drop_zero]; split <;> omega, Below.refl _ _⟩
  case round =>
    obtain ⟨k, hk, rfl, he, hbe⟩ := hrel
    by_cases hlt : k < 9
    · obtain ⟨S, hS, c0, c1, c2, c3, c4, c5, c6, c7⟩ := (HK.out.bel hbe.out).2 k hlt
      have HW := Lib.hid (kWord_any b ad2 n c S s0 (.bool (kq k)) (.bool (kn k)) (.bool (ka k)) (.bool (kb k)) (.bool (kf k)) (.int .i64 (kl k)) (kp k) wr (HB.out.bel hbe.out) hn ((hbe.out.cell (World.block_lt_of_cell? _ _ H0.out)).trans H0.out))
      have hx : kwL[k]? = some (kwL.getD k []) := by rw [List.getD_eq_getElem?_getD, List.getElem?_eq_getElem (show k < kwL.length from hlt)]; rfl
      have HDr := Lib.hid (dropL_at hx)
      have h := he.out
      rw [HDr.out] at h
      rw [hS] at HW
      generalize kwL.getD k [] = z at *
      generalize kq k = x1 at *
      generalize kn k = x2 at *
      generalize ka k = x3 at *
      generalize kb k = x4 at *
      generalize kf k = x5 at *
      generalize kl k = x6 at *
      generalize kp k = x7 at *
      clear hx hS
      by_cases hb : s0 = z
      · simp only [idxG, hb, if_true] at h
        have HR : Hid ((k : Int) = idxG s0 kwL) := by show _ = _; rw [hb, h]; simp
        rw [decide_eq_true hb.symm] at HW
        clear h hb he
        go_wp2_with fail
        refine HW.out.mono ?_
        rintro e w2 ⟨rfl, hb2⟩
        have HB2 := Lib.hid (hbe.out.trans (hb2.mono hbe.out.size))
        clear hb2
        go_wp2
        go_ret
        exact ⟨ret_i HR.out, HB2.out⟩
      · simp only [idxG, hb, if_false] at h
        have hlo := idxG_lo s0 (kwL.drop (k + 1))
        have HN : Hid (idxG s0 kwL = if idxG s0 (kwL.drop (k + 1)) < 0 then -1 else idxG s0 (kwL.drop (k + 1)) + (k + 1 : Nat)) := by
          show _ = _
          rw [h]
          by_cases c1 : idxG s0 (kwL.drop (k + 1)) < 0
          · simp [c1]
          · rw [if_neg c1, if_neg c1, if_neg (by omega)]; push_cast; omega
        rw [decide_eq_false (fun e => hb e.symm)] at HW
        clear h hlo hb he
        go_wp2_with fail
        refine HW.out.mono ?_
        rintro e w2 ⟨rfl, hb2⟩
        have HB2 := Lib.hid (hbe.out.trans (hb2.mono hbe.out.size))
        clear hb2 c0 c1 c2 c3 c4 c5 c6 c7
        go_wp2
        go_roundw
        case rel => exact ⟨k + 1, by omega, by go_num, HN.out, HB2.out⟩
        case measure => simp [intOf]; omega
    · have h := he.out
      rw [List.drop_of_length_le (by show 9 ≤ k; omega)] at h
      have HR : Hid ((-1 : Int) = idxG s0 kwL) := by show _ = _; rw [h]; simp [idxG]
      clear h he
      go_wp2
      go_ret
      exact ⟨ret_i HR.out, hbe.out⟩
end Go.Proofs.YtgcnijmmjlfabaaGreatDoor

namespace Go.Proofs.YtgcnijmmjlfabaaGreatDoor
open Go.RowKit Go.Shelf

/-- What the checker answers to a certificate for a right claim of a kind. -/
def provesE (m : Nat) (es : List Tri) (i : Nat) (Q N : Int) (a b f pf : List Int) : Int :=
  if i = 0 then leadsE m es a pf (fun d => eqL d b) else if i = 1 then leadsE m es a pf effB else if i = 2 then losesE m es a pf
  else if i = 3 then coversE m es N.toNat a pf else if i = 4 then belowE m es N a pf else if i = 5 then fireE m es Q.toNat a a pf
  else if i = 6 then fireE m es Q.toNat a (restL m es Q.toNat a) pf else if i = 7 then settlesE m es Q.toNat a b pf else groupedE (m - 1) es f pf
theorem kp1_any (gv va vb vf vp : Value) (n : Nat) (q nn : Int) (es : List Tri) (a b pf : List Int) (w : World) (hg : GX w gv n es) (ha : RI w va a) (hbv : RI w vb b) (hp : RI w vp pf) (hE : Edges n es) (hn : n ≤ 12) (hal : a.length = n) (hbl : b.length = n) (hab : Bd 2000000 a) (hpb : Bd 2000000 pf) :
    Calls Tryz.prog 63 #[gv, .agg #[.int .i64 q, .int .i64 nn, va, vb, vf, vp]] w fun e w' => e = .returned (.int .i64 (leadsE n es a pf (fun d => eqL d b))) ∧ Below w.heap.size w w' := by
  obtain ⟨Ab, cb, rfl, -⟩ := hbv.open_
  rw [hbl] at hbv ⊢
  obtain ⟨W0, hW0⟩ : ∃ W0, W0 = w.alloc (.cells #[.int .i64 q, .int .i64 nn, va, .slice Ab n cb, vf, vp] 87) := ⟨_, rfl⟩
  have hb0 : Below w.heap.size w W0 := by rw [hW0]; exact below_alloc w _
  have hbx : BL W0 w.heap.size 87 [.int .i64 q, .int .i64 nn, va, .slice Ab n cb, vf, vp] := by rw [hW0]; exact BL.new' w _ _
  have hclo : CloK Tryz.prog W0 (.func (.func 65) #[] #[.pointer (some ⟨w.heap.size, 0, none⟩)]) n (fun d => eqL d b) := by
    refine ⟨_, _, rfl, enters_of Tryz.func65 (by kernel_rfl) rfl, fun W hW v x hx hxl => ?_⟩
    have c3 := (hbx.bel hW).cell 3
    have HEq := Lib.hid (EqualI_any v _ x b W hx (RI.below (RI.below hbv hb0) hW))
    clear hbx hb0 hx hg ha hbv hp
    show Calls _ _ #[v, .pointer (some ⟨w.heap.size, 0, none⟩)] _ _
    go_enter Tryz.func65, Tryz.ntmps65
    go_wp2_with fail
    refine HEq.out.mono ?_
    rintro e w2 ⟨rfl, j, rfl⟩
    go_wp2
    go_ret
    exact ⟨rfl, below_drewN (Below.refl _ _) j⟩
  have HLe := Lib.hid (kLeads_any gv va (.slice Ab n cb) vf vp _ n q nn es a pf _ W0 (hg.below hb0) (RI.below ha hb0) (RI.below hp hb0) hclo hE hn hal hab hpb)
  have c0 := hbx.cell 0
  have c1 := hbx.cell 1
  have c2 := hbx.cell 2
  have c3 := hbx.cell 3
  have c4 := hbx.cell 4
  have c5 := hbx.cell 5
  have HB0 := Lib.hid hb0
  have HW0 := Lib.hid hW0
  rw [hW0] at c0 c1 c2 c3 c4 c5
  clear hg ha hbv hp hb0 hbx hclo hW0 hal hbl
  go_enter Tryz.func63, Tryz.ntmps63
  go_wp2_with fail
  rw [← HW0.out]
  refine HLe.out.mono ?_
  rintro e w2 ⟨rfl, hb2⟩
  have HB2 := Lib.hid (HB0.out.trans (hb2.mono HB0.out.size))
  clear hb2
  go_wp2
  go_ret
  exact ⟨rfl, HB2.out⟩
theorem kp2_any (gv va vb vf vp : Value) (n : Nat) (q nn : Int) (es : List Tri) (a pf : List Int) (w : World) (hg : GX w gv n es) (ha : RI w va a) (hp : RI w vp pf) (hE : Edges n es) (hn : n ≤ 12) (hal : a.length = n) (hab : Bd 2000000 a) (hpb : Bd 2000000 pf) :
    Calls Tryz.prog 67 #[gv, .agg #[.int .i64 q, .int .i64 nn, va, vb, vf, vp]] w fun e w' => e = .returned (.int .i64 (leadsE n es a pf effB)) ∧ Below w.heap.size w w' := by
  obtain ⟨W0, hW0⟩ : ∃ W0, W0 = w.alloc (.cells #[.int .i64 q, .int .i64 nn, va, vb, vf, vp] 87) := ⟨_, rfl⟩
  have hb0 : Below w.heap.size w W0 := by rw [hW0]; exact below_alloc w _
  have hbx : BL W0 w.heap.size 87 [.int .i64 q, .int .i64 nn, va, vb, vf, vp] := by rw [hW0]; exact BL.new' w _ _
  have hclo : CloK Tryz.prog W0 (.func (.func 68) #[] #[]) n effB := by
    refine ⟨_, _, rfl, enters_of Tryz.func68 (by kernel_rfl) rfl, fun W hW v x hx hxl => ?_⟩
    refine (kEff_any v x W hx).mono ?_
    rintro e w' ⟨rfl, rfl⟩
    exact ⟨rfl, Below.refl _ _⟩
  have HLe := Lib.hid (kLeads_any gv va vb vf vp _ n q nn es a pf _ W0 (hg.below hb0) (RI.below ha hb0) (RI.below hp hb0) hclo hE hn hal hab hpb)
  have c0 := hbx.cell 0
  have c1 := hbx.cell 1
  have c2 := hbx.cell 2
  have c3 := hbx.cell 3
  have c4 := hbx.cell 4
  have c5 := hbx.cell 5
  have HB0 := Lib.hid hb0
  have HW0 := Lib.hid hW0
  rw [hW0] at c0 c1 c2 c3 c4 c5
  clear hg ha hp hb0 hbx hclo hW0 hal
  go_enter Tryz.func67, Tryz.ntmps67
  go_wp2_with fail
  rw [← HW0.out]
  refine HLe.out.mono ?_
  rintro e w2 ⟨rfl, hb2⟩
  have HB2 := Lib.hid (HB0.out.trans (hb2.mono HB0.out.size))
  clear hb2
  go_wp2
  go_ret
  exact ⟨rfl, HB2.out⟩
theorem kp3_any (gv va vb vf vp : Value) (n : Nat) (q nn : Int) (es : List Tri) (a pf : List Int) (w : World) (hg : GX w gv n es) (ha : RI w va a) (hp : RI w vp pf) (hE : Edges n es) (hn1 : 1 ≤ n) (hn : n ≤ 12) (hal : a.length = n) (hab : Bd 2000000 a) (hpb : Bd 2000000 pf) (hpl : pf.length ≤ 100000) :
    Calls Tryz.prog 69 #[gv, .agg #[.int .i64 q, .int .i64 nn, va, vb, vf, vp]] w fun e w' => e = .returned (.int .i64 (losesE n es a pf)) ∧ Below w.heap.size w w' := by
  obtain ⟨W0, hW0⟩ : ∃ W0, W0 = w.alloc (.cells #[.int .i64 q, .int .i64 nn, va, vb, vf, vp] 87) := ⟨_, rfl⟩
  have hb0 : Below w.heap.size w W0 := by rw [hW0]; exact below_alloc w _
  have hbx : BL W0 w.heap.size 87 [.int .i64 q, .int .i64 nn, va, vb, vf, vp] := by rw [hW0]; exact BL.new' w _ _
  have HLe := Lib.hid (kLoses_any gv va vp n es a pf W0 (hg.below hb0) (RI.below ha hb0) (RI.below hp hb0) hE hn1 hn hal (hab.mono (by decide)) hpb hpl)
  have c2 := hbx.cell 2
  have c5 := hbx.cell 5
  have HB0 := Lib.hid hb0
  have HW0 := Lib.hid hW0
  rw [hW0] at c2 c5
  clear hg ha hp hb0 hbx hW0 hal
  go_enter Tryz.func69, Tryz.ntmps69
  go_wp2_with fail
  rw [← HW0.out]
  refine HLe.out.mono ?_
  rintro e w2 ⟨rfl, hb2⟩
  have HB2 := Lib.hid (HB0.out.trans (hb2.mono HB0.out.size))
  clear hb2
  go_wp2
  go_ret
  exact ⟨rfl, HB2.out⟩
theorem kp4_any (gv va vb vf vp : Value) (n q : Nat) (nn : Int) (es : List Tri) (a pf : List Int) (w : World) (hg : GX w gv n es) (ha : RI w va a) (hp : RI w vp pf) (hE : Edges n es) (hn : n ≤ 12) (hq : q < n) (hal : a.length = n) (hpl : pf.length ≤ 100000) :
    Calls Tryz.prog 73 #[gv, .agg #[.int .i64 (q : Int), .int .i64 nn, va, vb, vf, vp]] w fun e w' => e = .returned (.int .i64 (fireE n es q a a pf)) ∧ Below w.heap.size w w' := by
  obtain ⟨W0, hW0⟩ : ∃ W0, W0 = w.alloc (.cells #[.int .i64 (q : Int), .int .i64 nn, va, vb, vf, vp] 87) := ⟨_, rfl⟩
  have hb0 : Below w.heap.size w W0 := by rw [hW0]; exact below_alloc w _
  have hbx : BL W0 w.heap.size 87 [.int .i64 (q : Int), .int .i64 nn, va, vb, vf, vp] := by rw [hW0]; exact BL.new' w _ _
  have HLe := Lib.hid (kFire_any gv va vb vf vp va n q nn es a a pf W0 (hg.below hb0) (RI.below ha hb0) (RI.below hp hb0) (RI.below ha hb0) hE hn hq hal hal hpl)
  have c0 := hbx.cell 0
  have c1 := hbx.cell 1
  have c2 := hbx.cell 2
  have c3 := hbx.cell 3
  have c4 := hbx.cell 4
  have c5 := hbx.cell 5
  have HB0 := Lib.hid hb0
  have HW0 := Lib.hid hW0
  rw [hW0] at c0 c1 c2 c3 c4 c5
  clear hg ha hp hb0 hbx hW0 hal
  go_enter Tryz.func73, Tryz.ntmps73
  go_wp2_with fail
  rw [← HW0.out]
  refine HLe.out.mono ?_
  rintro e w2 ⟨rfl, hb2⟩
  have HB2 := Lib.hid (HB0.out.trans (hb2.mono HB0.out.size))
  clear hb2
  go_wp2
  go_ret
  exact ⟨rfl, HB2.out⟩
end Go.Proofs.YtgcnijmmjlfabaaGreatDoor

namespace Go.Proofs.YtgcnijmmjlfabaaGreatDoor
open Go.RowKit Go.Shelf

theorem kp5_any (gv va vb vf vp : Value) (n q : Nat) (nn : Int) (es : List Tri) (a pf : List Int) (w : World) (hg : GX w gv n es) (ha : RI w va a) (hp : RI w vp pf) (hE : Edges n es) (hn : n ≤ 12) (hq : q < n) (hal : a.length = n) (hab : Bd 2000000 a) (hpl : pf.length ≤ 100000) :
    Calls Tryz.prog 75 #[gv, .agg #[.int .i64 (q : Int), .int .i64 nn, va, vb, vf, vp]] w fun e w' => e = .returned (.int .i64 (fireE n es q a (restL n es q a) pf)) ∧ Below w.heap.size w w' := by
  obtain ⟨W0, hW0⟩ : ∃ W0, W0 = w.alloc (.cells #[.int .i64 (q : Int), .int .i64 nn, va, vb, vf, vp] 87) := ⟨_, rfl⟩
  have hb0 : Below w.heap.size w W0 := by rw [hW0]; exact below_alloc w _
  have hbx : BL W0 w.heap.size 87 [.int .i64 (q : Int), .int .i64 nn, va, vb, vf, vp] := by rw [hW0]; exact BL.new' w _ _
  have HG := Lib.hid (hg.below hb0)
  have HA := Lib.hid (RI.below ha hb0)
  have HP := Lib.hid (RI.below hp hb0)
  have HX := Lib.hid hbx
  have HB0 := Lib.hid hb0
  have HW0 := Lib.hid hW0
  have HRe := Lib.hid (kRest_any gv va vb vf vp n q nn es a W0.drew (hg.below hb0.drew) (RI.below ha hb0.drew) hE hn hq hal hab)
  have HFi : Hid (∀ (v : Value) (W : World), Below W0.heap.size W0 W → RI W v (restL n es q a) → Calls Tryz.prog 74 #[gv, .agg #[.int .i64 (q : Int), .int .i64 nn, va, vb, vf, vp], v] W fun e w' => e = .returned (.int .i64 (fireE n es q a (restL n es q a) pf)) ∧ Below W.heap.size W w') := fun v W h hv =>
    kFire_any gv va vb vf vp v n q nn es a _ pf W (HG.out.below h) (RI.below HA.out h) (RI.below HP.out h) hv hE hn hq hal (restL_len _ _ _ _) hpl
  have HK : Hid (∀ W : World, Below W0.heap.size W0 W → W.heap[w.heap.size]? = some (.cells #[.int .i64 (q : Int), .int .i64 nn, va, vb, vf, vp] 87 (0, 0))) := fun W h => HX.out.bel h
  clear hg ha hp hb0 hbx hW0 hal hab
  generalize restL n es q a = rl at *
  go_enter Tryz.func75, Tryz.ntmps75
  go_wp2_with fail
  rw [← HW0.out]
  have HKc : Hid (∀ W : World, Below W0.heap.size W0 W → (fun W' : World => W'.cell? ⟨w.heap.size, 0, none⟩ = some (.int .i64 (q : Int)) ∧ W'.cell? ⟨w.heap.size, 1, none⟩ = some (.int .i64 nn) ∧ W'.cell? ⟨w.heap.size, 2, none⟩ = some va ∧ W'.cell? ⟨w.heap.size, 3, none⟩ = some vb ∧ W'.cell? ⟨w.heap.size, 4, none⟩ = some vf ∧ W'.cell? ⟨w.heap.size, 5, none⟩ = some vp) W) := fun W h => ⟨(HX.out.bel h).cell 0, (HX.out.bel h).cell 1, (HX.out.bel h).cell 2, (HX.out.bel h).cell 3, (HX.out.bel h).cell 4, (HX.out.bel h).cell 5⟩
  have HS0 := Lib.hid (HKc.out W0.drew (Below.refl _ _).drew)
  go_region_held3 (fun W' : World => W'.cell? ⟨w.heap.size, 0, none⟩ = some (.int .i64 (q : Int)) ∧ W'.cell? ⟨w.heap.size, 1, none⟩ = some (.int .i64 nn) ∧ W'.cell? ⟨w.heap.size, 2, none⟩ = some va ∧ W'.cell? ⟨w.heap.size, 3, none⟩ = some vb ∧ W'.cell? ⟨w.heap.size, 4, none⟩ = some vf ∧ W'.cell? ⟨w.heap.size, 5, none⟩ = some vp) (first | exact HS0.out | exact HSc.out)
    (first | (go_at_call 76; refine HRe.out.mono ?_; rintro e w2 ⟨v2, rfl, ho2, hb2⟩; have HBc := Lib.hid ((Below.refl W0.heap.size W0).drew.trans hb2); have HSc := Lib.hid (HKc.out w2 HBc.out); have HR2 := Lib.hid ho2.ri; clear ho2 hb2) | (go_at_call 74; refine (HFi.out v2 w2 HBc.out HR2.out).mono ?_; rintro e w3 ⟨rfl, hb3⟩; have HBd := Lib.hid (HBc.out.trans (hb3.mono HBc.out.size)); have HSc := Lib.hid (HKc.out w3 HBd.out); clear hb3))
  go_wp2
  go_ret
  exact ⟨rfl, HB0.out.trans (HBd.out.mono HB0.out.size)⟩
end Go.Proofs.YtgcnijmmjlfabaaGreatDoor

namespace Go.Proofs.YtgcnijmmjlfabaaGreatDoor
open Go.RowKit Go.Shelf

/-- What the checker answers to the numbers of a claim and of a certificate. -/
def clmE (m : Nat) (es : List Tri) (i : Nat) (l pf : List Int) : Int :=
  if fillE m (kq i) (kn i) (kb i) (kf i) l ≠ 0 then fillE m (kq i) (kn i) (kb i) (kf i) l
  else if rightE m (kq i) (kn i) (kl i) (fQ (kq i) l) (fQ (kn i) (l1L (kq i) l)) (fF (kf i) (l2L (kq i) (kn i) l)) ≠ 0 then rightE m (kq i) (kn i) (kl i) (fQ (kq i) l) (fQ (kn i) (l1L (kq i) l)) (fF (kf i) (l2L (kq i) (kn i) l))
  else provesE m es i (fQ (kq i) l) (fQ (kn i) (l1L (kq i) l)) (fA m (kb i) (kf i) (l2L (kq i) (kn i) l)) (fB m (kb i) (kf i) (l2L (kq i) (kn i) l)) (fF (kf i) (l2L (kq i) (kn i) l)) pf
def wrdE (m : Nat) (es : List Tri) (ws : List (List UInt8)) (i k : Nat) : Int :=
  if numsE ((ws.take k).drop 1) = 4 ∨ numsE (ws.drop (k + 1)) = 4 then 4 else if numsE ((ws.take k).drop 1) ≠ 0 ∨ numsE (ws.drop (k + 1)) ≠ 0 then 2 else clmE m es i (numsV ((ws.take k).drop 1)) (numsV (ws.drop (k + 1)))
/-- What the checker answers to a line. -/
def lineE (m : Nat) (es : List Tri) (s : List UInt8) : Int :=
  if idxG ((splitL 32 s).getD 0 []) kwL < 0 ∨ idxG [58] (splitL 32 s) < 0 then 4 else wrdE m es (splitL 32 s) (idxG ((splitL 32 s).getD 0 []) kwL).toNat (idxG [58] (splitL 32 s)).toNat
theorem nums_bd {ws : List (List UInt8)} (h : numsE ws = 0) : Bd 2000000 (numsV ws) := by
  unfold numsE at h
  by_cases h1 : ws.all canB = false
  · rw [if_pos h1] at h; cases h
  · rw [if_neg h1] at h
    by_cases h2 : ws.all (fun s => decide (-1048576 ≤ wv s) && decide (wv s ≤ 1048576)) = false
    · rw [if_pos h2] at h; cases h
    · have h3 : ws.all (fun s => decide (-1048576 ≤ wv s) && decide (wv s ≤ 1048576)) = true := by simpa using h2
      intro j
      unfold numsV
      rw [List.getD_eq_getElem?_getD, List.getElem?_map]
      cases hx : ws[j]? with
      | none => simp
      | some x =>
        have := List.all_eq_true.1 h3 x (List.mem_of_getElem? hx)
        simp only [Bool.and_eq_true, decide_eq_true_eq] at this
        simp only [Option.map_some, Option.getD_some]
        omega
theorem numsV_len (ws : List (List UInt8)) : (numsV ws).length = ws.length := by simp [numsV]
theorem Bd.l1 {S : Int} {l : List Int} (h : Bd S l) (h0 : 0 ≤ S) (q : Bool) : Bd S (l1L q l) := by
  cases q
  · exact h
  · have := h.sub h0 1 l.length
    rwa [List.take_of_length_le (Nat.le_refl _)] at this
theorem Bd.nil {S : Int} (h0 : 0 ≤ S) : Bd S [] := fun v => by simp; omega
theorem Bd.fA {S : Int} {l : List Int} (h : Bd S l) (h0 : 0 ≤ S) (m : Nat) (b f : Bool) : Bd S (fA m b f l) := by
  unfold Go.Proofs.YtgcnijmmjlfabaaGreatDoor.fA
  split
  · exact Bd.nil h0
  · split
    · have := h.sub h0 0 m
      rwa [List.drop_zero] at this
    · exact h
theorem Bd.fB {S : Int} {l : List Int} (h : Bd S l) (h0 : 0 ≤ S) (m : Nat) (b f : Bool) : Bd S (fB m b f l) := by
  unfold Go.Proofs.YtgcnijmmjlfabaaGreatDoor.fB
  split
  · exact Bd.nil h0
  · split
    · have := h.sub h0 m l.length
      rwa [List.take_of_length_le (Nat.le_refl _)] at this
    · exact Bd.nil h0
theorem Bd.fF {S : Int} {l : List Int} (h : Bd S l) (h0 : 0 ≤ S) (f : Bool) : Bd S (fF f l) := by
  unfold Go.Proofs.YtgcnijmmjlfabaaGreatDoor.fF
  split
  · have := h.sub h0 1 l.length
    rwa [List.take_of_length_le (Nat.le_refl _)] at this
  · exact Bd.nil h0
theorem fill_len {m : Nat} {q n b f : Bool} {l : List Int} (h : fillE m q n b f l = 0) (hf : f = false) : (fA m b f (l2L q n l)).length = m ∧ (b = true → (fB m b f (l2L q n l)).length = m) := by
  subst hf
  unfold fillE at h
  split at h
  · cases h
  · split at h
    · cases h
    · rw [if_neg (by simp)] at h
      cases b
      · rw [if_neg (by simp)] at h
        refine ⟨?_, fun h => by cases h⟩
        split at h
        · cases h
        · show (l2L q n l).length = m
          omega
      · rw [if_pos rfl] at h
        split at h
        · cases h
        · refine ⟨?_, fun _ => ?_⟩
          · show ((l2L q n l).take m).length = m
            rw [List.length_take]; omega
          · show ((l2L q n l).drop m).length = m
            rw [List.length_drop]; omega
theorem right_ok {m : Nat} {q n : Bool} {least Q N : Int} {fs : List Int} (h : rightE m q n least Q N fs = 0) : (q = true → 0 ≤ Q ∧ Q < m) ∧ (n = true → least ≤ N ∧ N ≤ 12) := by
  unfold rightE at h
  split at h
  · cases h
  · rename_i hn
    refine ⟨fun hq => ?_, fun hn' => ?_⟩
    · apply Classical.byContradiction
      intro hc
      exact hn (.inl ⟨hq, hc⟩)
    · apply Classical.byContradiction
      intro hc
      exact hn (.inr ⟨hn', by omega⟩)
theorem l1L_len (q : Bool) (l : List Int) : (l1L q l).length ≤ l.length := by cases q <;> simp [l1L]
/-- Parts of a list of texts. -/
theorem RS.sub {w : World} {a : Addr} {n c : Nat} {l : List (List UInt8)} (h : RS w (.slice (some a) n c) l) {i j : Nat} (hi : i ≤ j) (hj : j ≤ l.length) : RS w (.slice (if c = i then some a else some (a.add i)) (j - i) (c - i)) ((l.take j).drop i) := by
  obtain ⟨A, c', he, h2, h3, h4⟩ := h
  simp only [List.length_map, Value.slice.injEq] at he h2 h3 h4
  obtain ⟨rfl, rfl, rfl⟩ := he
  have hl : (((l.take j).drop i).map strV).length = j - i := by rw [List.length_map, List.length_drop, List.length_take]; omega
  refine ⟨if c = i then some a else some (a.add i), c - i, by rw [hl], by rw [hl]; omega, by rw [hl]; omega, fun k hk => ?_⟩
  rw [hl] at hk
  have hci : c ≠ i := by omega
  rw [if_neg hci]
  obtain ⟨ad, e, hb, hc⟩ := h4 (i + k) (by omega)
  cases e
  refine ⟨_, rfl, by rw [block_of_add]; exact hb, ?_⟩
  have e2 : (a.add i).add k = a.add (i + k) := by
    unfold Addr.add
    by_cases h0 : i = 0
    · subst h0; simp
    · by_cases h1 : k = 0
      · subst h1; simp
      · rw [if_neg h0, if_neg h1, if_neg (by omega)]; simp [Nat.add_assoc]
  rw [e2, hc]
  rw [List.getElem?_map, List.getElem?_map, List.getElem?_drop, List.getElem?_take_of_lt (by omega)]
end Go.Proofs.YtgcnijmmjlfabaaGreatDoor

