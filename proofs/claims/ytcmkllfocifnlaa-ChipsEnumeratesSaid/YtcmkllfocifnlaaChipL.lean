/- slices.AppendSeq and slices.Collect over the divisors that an iterator gives; chips.All. -/
import Derived.Test.YtcmkllfocifnlaaChipK
namespace Go.Proofs.Ytcmkllfocifnlaa
open Go.RowKit Go.Shelf
attribute [local go_sem] Oper.semAt_some

theorem slice_info : (Try.prog.info? 23).map (fun i => (i.zero, i.size, i.bytes)) = some (some (.slice none 0 0), 1, 24) := by kernel_rfl

/-- The items that have come, in a slice of the call's own behind a box at block h. -/
def CollI (h : Nat) (w : World) (gst Bi : Nat) (pre : List DItem) (W : World) : Prop :=
  ∃ v, W.heap[h]? = some (.cells #[v] 40 (0, 0)) ∧ OV W (h + 1) 23 v (pre.map (·.1)) ∧ (∀ x ∈ pre, OI W Bi x.1 x.2) ∧ w.grownBy W (some gst)

theorem OV.putLoop {w : World} {B : Nat} {e : TypeId} {v : Value} {us : List Value} (h : OV w B e v us) {l : Nat} {r : Loop} (hl : w.heap[l]? = some (.loop r)) (o : Obj) : OV (w.putObj l o) B e v us := by
  refine ⟨h.1.kept (grownBy_putObj' w l o) ?_, h.2⟩
  rcases h.1.2 with ⟨rfl, _⟩ | ⟨g, cap, cur, rfl, _, hh, _⟩
  · exact .inl rfl
  · right
    intro e'
    simp only [Value.ownBlock, Option.some.injEq] at e'
    subst e'
    rw [hl] at hh; cases hh
theorem OV.putOther {w : World} {B : Nat} {e : TypeId} {v : Value} {us : List Value} (h : OV w B e v us) {l : Nat} {o' : Obj} (hl : w.heap[l]? = some o') (ho : o'.isCells = false) (o : Obj) : OV (w.putObj l o) B e v us := by
  refine ⟨h.1.kept (grownBy_putObj' w l o) ?_, h.2⟩
  rcases h.1.2 with ⟨rfl, _⟩ | ⟨g, cap, cur, rfl, _, hh, _⟩
  · exact .inl rfl
  · right
    intro e'
    simp only [Value.ownBlock, Option.some.injEq] at e'
    subst e'
    rw [hl] at hh; injection hh with hh; subst hh; cases ho
theorem OV.grownOther {w w' : World} {B gst : Nat} {e : TypeId} {v : Value} {us : List Value} (h : OV w B e v us) (hB : gst < B) (hg : w.grownBy w' (some gst)) : OV w' B e v us := by
  refine ⟨h.1.kept hg ?_, h.2⟩
  cases hv : v.ownBlock with
  | none => exact .inl rfl
  | some k => right; intro e'; have := (h.1.lt k hv).1; simp at e'; omega
theorem grown_putLoop {w W : World} {row : Option Nat} (h : w.grownBy W row) {l : Nat} (hl : w.heap.size ≤ l) (o : Obj) : w.grownBy (W.putObj l o) row :=
  ⟨h.os, h.tape, h.output, by simpa [World.putObj] using h.size, fun k hk hne => (World.putObj_heap_other (by omega)).trans (h.block k hk hne)⟩
theorem fromK_put {gst bx l : Nat} (W : World) (o : Obj) (h1 : gst ≠ l) (h2 : bx ≠ l) : fromK gst bx W (W.putObj l o) :=
  ⟨by simp [World.putObj], World.putObj_heap_other h1, World.putObj_heap_other h2⟩
theorem fromK_trans {gst bx : Nat} (A B C : World) (h : fromK gst bx A B) (k : fromK gst bx B C) : fromK gst bx A C :=
  ⟨Nat.le_trans h.1 k.1, k.2.1.trans h.2.1, k.2.2.trans h.2.2⟩
theorem fromPre.below {gst bx Bi n cap : Nat} {zs : List Int} {w W : World} (h : fromPre gst bx Bi n cap zs w) (hb : Below w.heap.size w W) : fromPre gst bx Bi n cap zs W := by
  obtain ⟨p1, p2, p3, p4, p5, p6⟩ := h
  exact ⟨p1, p2, p3, Nat.le_trans p4 hb.size, (hb.block bx (by omega)).trans p5, OI.below p6 hb⟩

theorem OV.blk {w : World} {B : Nat} {e : TypeId} {v : Value} {us : List Value} (h : OV w B e v us) {k : Nat} (hk : v.ownBlock = some k) : ∃ cur, w.heap[k]? = some (.cells cur e (0, 0)) := by
  rcases h.1.2 with ⟨rfl, _⟩ | ⟨g, cap, cur, rfl, _, hh, _⟩
  · cases hk
  · simp only [Value.ownBlock, Option.some.injEq] at hk; subst hk; exact ⟨cur, hh⟩
theorem OV.keptBox {w w' : World} {B k : Nat} {e e' : TypeId} {v : Value} {us : List Value} {cs : Array Value} {fr : Nat × Nat} (h : OV w B e v us) (hb : w.heap[k]? = some (.cells cs e' fr)) (hne : e ≠ e') (hg : w.grownBy w' (some k)) : OV w' B e v us := by
  refine ⟨h.1.kept hg ?_, h.2⟩
  cases hv : v.ownBlock with
  | none => exact .inl rfl
  | some j =>
    right; intro ej
    obtain ⟨cur, hc⟩ := h.blk hv
    injection ej with ej
    subst ej
    rw [hb] at hc
    injection hc with hc
    injection hc with _ hc
    exact hne hc.symm
theorem OV.keptOwn {w w' : World} {B B' : Nat} {e e' : TypeId} {v v' : Value} {us us' : List Value} (h : OV w B e v us) (h' : OV w B' e' v' us') (hne : e ≠ e') (hg : w.grownBy w' v'.ownBlock) : OV w' B e v us := by
  cases hv : v'.ownBlock with
  | none => rw [hv] at hg; exact ⟨h.1.kept hg (by cases v.ownBlock <;> simp), h.2⟩
  | some k => rw [hv] at hg; obtain ⟨cur, hc⟩ := h'.blk hv; exact h.keptBox hc hne hg
theorem OV.not_blk {w : World} {B : Nat} {e : TypeId} {v : Value} {us : List Value} (h : OV w B e v us) {k : Nat} {o : Obj} (hk : w.heap[k]? = some o) (ho : o.isCells = false) : some k ≠ v.ownBlock := by
  intro hv
  obtain ⟨cur, hc⟩ := h.blk hv.symm
  rw [hk] at hc; injection hc with hc; subst hc; cases ho

set_option maxRecDepth 100000 in
set_option maxHeartbeats 1000000 in
theorem AppendSeq_any (gst bx Bi n cap : Nat) (zs : List Int) (L : List (List Int)) (hch : IsChain zs L) (hgood : ∀ z ∈ L, Good z) (hL : L.length ≤ 1000000) (w : World) (hpre : fromPre gst bx Bi n cap zs w) :
    Calls Try.prog 85 #[.slice none 0 0, .func (.func 86) #[] #[.pointer (some ⟨bx, 0, none⟩)]] w fun e w' => ∃ v, e = .returned v ∧ RR w' v L ∧ w.grownBy w' (some gst) := by
  obtain ⟨i0, hi, hz0, hz1, hz2⟩ := info_parts slice_info
  have HP := Lib.hid hpre
  have hsz : gst < Bi ∧ bx < Bi ∧ Bi ≤ w.heap.size := ⟨hpre.1, hpre.2.1, hpre.2.2.2.1⟩
  obtain ⟨q1, q2, q4⟩ := hsz
  clear hpre
  refine (callsIn_wide (n := 3)).1 ?_
  refine callsIn_of_wp_marks Try.func85 rfl trivial ?_ rfl
  simp only [Try.ntmps85, List.size_toArray, List.length_cons, List.length_nil, Nat.reduceAdd, Nat.reduceSub, Array.replicate_succ, Array.replicate_zero, List.push_toArray, List.append_toArray, List.nil_append, List.cons_append]
  gi_wp2
  have hbb := below_alloc w (.cells #[.slice none 0 0] 40)
  refine wpIn_rangeFunc_iter (gf := 86) (lb := #[.pointer (some ⟨bx, 0, none⟩)]) rfl (enters_of Try.func86 (by kernel_rfl) rfl)
    (from1_iter gst bx Bi n cap zs L hch hgood) (fun _ => rfl) ?hR fromK_trans ?hKp ?hIt (CollI w.heap.size w gst Bi) (fun _ _ _ => False) ?hI (fun _ _ _ _ _ h _ => h) ?hIR (fun _ _ _ _ h _ => h) ?hpre ?h0
    (fun x => { tmps := #[.slice none 0 0, .func (.func 86) #[] #[.pointer (some ⟨bx, 0, none⟩)], .pointer (some ⟨w.heap.size, 0, none⟩), undef, .slice none 0 0, x.1, .func (.func 86) #[] #[.pointer (some ⟨bx, 0, none⟩)], x.1, undef, undef, undef, undef, undef], defers := [] }) ?assign ?body ?done ?stop
  case hR =>
    intro A B h hs
    simp only [World.size_alloc] at hs ⊢
    exact ⟨h.block _ (by omega) (by simp; omega), h.block _ (by omega) (by simp; omega)⟩
  case hKp => intro W r o _; exact fromK_put W _ (by simp; omega) (by simp; omega)
  case hIt => intro pre x W r o h hl; exact ⟨OV.putLoop h.1 hl o, h.2⟩
  case hI =>
    intro pre W r o h hl
    obtain ⟨v, h1, h2, h3, h4⟩ := h
    refine ⟨v, (World.putObj_heap_other (by simp; omega)).trans h1, OV.putLoop h2 hl o, fun x hx => OV.putLoop (h3 x hx) hl o, grown_putLoop h4 (by simp; omega) o⟩
  case hIR =>
    intro pre A B h hr
    obtain ⟨v, h1, h2, h3, h4⟩ := h
    refine ⟨v, (hr.block _ (lt_of_block h1) (by simp; omega)).trans h1, OV.grownOther h2 (by omega) hr, fun x hx => OV.grownOther (h3 x hx) q1 hr, grown_trans3 h4 hr⟩
  case hpre => intro r; exact fromPre.below HP.out ((((Below.refl _ w).alloc (Nat.le_refl _) _).alloc (by simp) _).alloc (by simp; omega) _)
  case h0 =>
    intro r
    have hb3 := (((Below.refl _ w).alloc (Nat.le_refl _) (.cells #[.slice none 0 0] 40)).alloc (by simp) (.deferred (some []))).alloc (by simp; omega) (.loop r)
    refine ⟨.slice none 0 0, ?_, OV.nil_ _ _ _, fun x hx => by simp at hx, ⟨hb3.os, hb3.tape, hb3.output, hb3.size, fun k hk _ => hb3.block k hk⟩⟩
    rw [Below.heap_alloc _ _ _ (by simp; omega), Below.heap_alloc _ _ _ (by simp)]
    exact heap_alloc_new w _
  case assign =>
    intro l x W K hK
    gi_wp2
    exact hK
  case body =>
    rintro l pre ⟨u, xz⟩ W r ⟨v, h1, h2, h3, h4⟩ ⟨hit, hlen⟩ hl hd
    dsimp only at hit
    obtain ⟨A, c, rfl, -⟩ := (OI.ri hit).open_
    have hc1 := cell_of_one h1
    have hx1 := Lib.hid (RV.one W (.slice A xz.length c) 23)
    have ho := Lib.hid (h2.below (below_alloc W (.cells #[.slice A xz.length c] 23)))
    have hone := Lib.hid (one_one (u := .slice A xz.length c) rfl)
    have hsW : w.heap.size ≤ W.heap.size := h4.size
    have hsb : w.heap.size < W.heap.size := lt_of_block h1
    have hlp : pre.length ≤ 1000000 := by omega
    have H1 := Lib.hid h1
    have H4 := Lib.hid h4
    have H3 := Lib.hid h3
    have HT := Lib.hid hit
    have HL := Lib.hid hl
    have HD := Lib.hid hd
    simp only [World.size_alloc] at HL HD
    clear h2 h3 h4 hit hl hd h1
    gi_wp2_with (gi_at_builtin; refine wpListIn_appendV _ rfl _ _ _ rfl 23 i0 _ 24 Try.underlying40 hi hz0 hz1 hz2 rfl (w.heap.size + 1) _ _ rfl ho.out _ _ rfl hx1.out hone.out (by simp; omega) (by simp; omega) (by simp; omega) ?_; intro v1 w1 hown1 hg1 hat1; obtain ⟨g1, cap1, rfl, hgB, hgl⟩ := OV.shape hown1 (by simp); have HO := Lib.hid hown1; have hg0 := Lib.hid hg1; have hnb : ∀ k, v.ownBlock = some k → w.heap.size + 1 ≤ k := (fun k hk => (ho.out.1.lt k hk).1); have hbx1 : w1.heap[w.heap.size]? = some (.cells #[v] 40 (0, 0)) := (hg1.block _ (by simp; omega) (by intro e; have := hnb _ e.symm; omega)).trans ((Below.heap_alloc _ _ _ hsb).trans H1.out); have HB := Lib.hid hbx1; have hcb := cell_of_one hbx1; have hfb := free_of_one hbx1; clear hown1 hg1 hnb hbx1)
    have hg : (W.alloc (.cells #[.slice A xz.length c] 23)).grownBy w1 v.ownBlock := hg0.out
    have hl2 := HL.out
    have hd2 := HD.out
    have ll := lt_of_block hl2
    have hla : (W.alloc (.cells #[.slice A xz.length c] 23)).heap[w.heap.size + 1 + 1]? = some (.loop r) := (Below.heap_alloc _ _ _ ll).trans hl2
    have hda : (W.alloc (.cells #[.slice A xz.length c] 23)).heap[w.heap.size + 1]? = some (.deferred (some [])) := (Below.heap_alloc _ _ _ (by omega)).trans hd2
    have hset := grownBy_setCell' w1 w.heap.size (.slice (some ⟨g1, 0, none⟩) (pre.length + 1) cap1)
    have step : ∀ k, k < W.heap.size → k ≠ w.heap.size → some k ≠ v.ownBlock → (w1.setCell ⟨w.heap.size, 0, none⟩ (.slice (some ⟨g1, 0, none⟩) (pre.length + 1) cap1)).heap[k]? = W.heap[k]? := by
      intro k hk hk1 hk2
      exact (hset.block k (by have := hg.size; simp at this; omega) (by simp; exact hk1)).trans ((hg.block k (by simp; omega) hk2).trans (Below.heap_alloc _ _ _ hk))
    have hnl := OV.not_blk ho.out hla rfl
    have hnd := OV.not_blk ho.out hda rfl
    have hlow : ∀ k, k < w.heap.size → some k ≠ v.ownBlock := by
      intro k hk e; have := (ho.out.1.lt k e.symm).1; omega
    have hsz2 : W.heap.size ≤ (w1.setCell ⟨w.heap.size, 0, none⟩ (.slice (some ⟨g1, 0, none⟩) (pre.length + 1) cap1)).heap.size := by
      have := hg.size; have := hset.size; simp at *; omega
    have items : ∀ x : DItem, OI W Bi x.1 x.2 → OI (w1.setCell ⟨w.heap.size, 0, none⟩ (.slice (some ⟨g1, 0, none⟩) (pre.length + 1) cap1)) Bi x.1 x.2 := by
      intro x hx
      have a1 := OI.below hx (below_alloc W (.cells #[.slice A xz.length c] 23))
      have a2 := OV.keptOwn a1 ho.out (by decide) hg
      exact OV.keptBox a2 HB.out (by decide) hset
    refine ⟨⟨step _ (by omega) (by omega) hnd, step _ ll (by omega) hnl⟩, ⟨hsz2, step _ (by omega) (by omega) (hlow _ (by omega)), step _ (by omega) (by omega) (hlow _ (by omega))⟩, _, one_setCell HB.out, ?_, ?_, ?_⟩
    · have := OV.keptBox HO.out HB.out (by decide) hset
      simpa using this
    · intro x hx
      rcases List.mem_append.1 hx with hx | hx
      · exact items x (H3.out x hx)
      · rw [List.mem_singleton.1 hx]; exact items _ HT.out
    · have h4 := H4.out
      have e1 := hset
      exact ⟨by rw [e1.os, hg.os]; exact h4.os, by rw [e1.tape, hg.tape]; exact h4.tape, by rw [e1.output, hg.output]; exact h4.output, Nat.le_trans h4.size hsz2,
        fun k hk hne => (step k (by omega) (by omega) (hlow k hk)).trans (h4.block k hk hne)⟩
  case done =>
    rintro xs W hS ⟨v, h1, h2, h3, h4⟩ hD
    have hc1 := cell_of_one h1
    have H1 := Lib.hid h1
    have H2 := Lib.hid h2
    have H3 := Lib.hid h3
    have H4 := Lib.hid h4
    have HS := Lib.hid hS
    have HD := Lib.hid hD
    clear h1 h2 h3 h4 hD hS
    gi_wp2
    refine ⟨by simp, .inl ⟨_, _, rfl, run_takeDeferred HD.out, ?_⟩⟩
    refine ⟨_, results_tmp rfl _ _ _, v, rfl, ?_, grown_putLoop H4.out (by simp) _⟩
    refine ⟨xs.map (·.1), OV.rv (OV.putOther H2.out HD.out rfl _), by rw [← HS.out]; simp, fun k z hk => ?_⟩
    rw [← HS.out, List.getElem?_map] at hk
    obtain ⟨x, hx, rfl⟩ := Option.map_eq_some_iff.1 hk
    exact ⟨x.1, by rw [List.getElem?_map, hx]; rfl, OV.rv (OV.putOther (H3.out x (List.mem_of_getElem? hx)) HD.out rfl _)⟩
  case stop => rintro c pre W _ h _; exact h.elim

theorem Collect_any (gst bx Bi n cap : Nat) (zs : List Int) (L : List (List Int)) (hch : IsChain zs L) (hgood : ∀ z ∈ L, Good z) (hL : L.length ≤ 1000000) (w : World) (hpre : fromPre gst bx Bi n cap zs w) :
    Calls Try.prog 64 #[.func (.func 86) #[] #[.pointer (some ⟨bx, 0, none⟩)]] w fun e w' => ∃ v, e = .returned v ∧ RR w' v L ∧ w.grownBy w' (some gst) := by
  have h := Lib.hid (AppendSeq_any gst bx Bi n cap zs L hch hgood hL w hpre)
  clear hch hgood hpre
  go_enter Try.func64, Try.ntmps64
  go_wp2_with (go_at_call 85; refine h.out.mono ?_; rintro e w' ⟨v, rfl, hr, hg⟩)
  go_ret
  exact ⟨v, rfl, hr, hg⟩
end Go.Proofs.Ytcmkllfocifnlaa
