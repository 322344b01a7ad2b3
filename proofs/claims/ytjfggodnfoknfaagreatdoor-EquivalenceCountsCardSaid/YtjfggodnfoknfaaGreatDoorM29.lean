/- slices.Clone at texts; the iterator over a matrix's rows.
   The iterator over a matrix's rows: the walk.
   slices.AppendSeq and slices.Collect over a matrix's rows.
   The state of an elimination in memory.
   Contract of the elimination's column. (printed by gen/col.py) -/
import Derived.Test.YtjfggodnfoknfaaGreatDoorM28
import Derived.Test.YtjfggodnfoknfaaGreatDoorM00
set_option maxRecDepth 100000
set_option maxHeartbeats 16000000
namespace Go.Proofs.YtjfggodnfoknfaaGreatDoor
open Go.RowKit Go.Shelf
attribute [local go_sem] Oper.semAt_some
theorem ones_text (zs : List Int) : ∀ u ∈ zs.map zV, u.oneCell' = true := by
  intro u hu
  obtain ⟨z, -, rfl⟩ := List.mem_map.1 hu
  rfl
theorem cloneT_any (ad : Addr) (n c : Nat) (xs : List Int) (w : World) (ha : RV w (.slice (some ad) n c) (xs.map zV)) (h0 : 0 < xs.length) (hl : xs.length ≤ 1000) :
    Calls Tryz.prog 158 #[.slice (some ad) n c] w fun e w' => ∃ g cap, e = .returned (.slice (some ⟨g, 0, none⟩) xs.length cap) ∧ w.heap.size ≤ g ∧ g < w'.heap.size ∧ OV w' w.heap.size 35 (.slice (some ⟨g, 0, none⟩) xs.length cap) (xs.map zV) ∧ Below w.heap.size w w' := by
  obtain ⟨i0, zz, hi, hz0, hz1, hz2, hz3⟩ := text_parts
  have hq := fun W : World => Lib.run_eql_slice_nil (P := Tryz.prog) W 82 35 (some ad) n c 0 0 Tryz.underlying82
  simp only [Option.isNone_some] at hq
  have hr1 := Lib.hid (ha.below (below_alloc w (.cells #[] 35)))
  have ho := Lib.hid (show OV (w.alloc (.cells #[] 35)) w.heap.size 35 (.slice (some ⟨w.heap.size, 0, none⟩) 0 0) [] from
    ⟨World.ownsRow_made w #[] 0 (Nat.le_refl _) (by unfold maxLen; omega) (by simp), by simp⟩)
  have HX := Lib.hid (ones_text xs)
  have HL := Lib.hid (show (xs.map zV).length ≤ 1000 ∧ 0 < (xs.map zV).length ∧ (xs.map zV).length = xs.length by rw [List.length_map]; exact ⟨hl, h0, rfl⟩)
  generalize xs.map zV = us at *
  generalize xs.length = len at *
  clear ha h0 hl
  go_enter Tryz.func158, Tryz.ntmps158
  go_wp2_with (at_builtin; refine wpList_appendV _ rfl _ _ _ rfl 35 i0 _ 16 Tryz.underlying82 hi hz0 hz1 hz2 hz3 w.heap.size _ [] rfl ho.out _ _ rfl hr1.out HX.out (by simp; have := HL.out.1; omega) (by simp; have := HL.out.1; omega) (by simp) ?_; intro v1 w1 hown1 hg1 hat1)
  rw [List.nil_append] at hown1
  obtain ⟨g, cap, rfl, hgB, hgl⟩ := OV.shape hown1 HL.out.2.1
  rw [HL.out.2.2] at hown1
  refine bodyPost_ret (results_tmp rfl _ _ _) rfl ⟨g, cap, by rw [← HL.out.2.2]; rfl, hgB, hgl, hown1, below_own (below_alloc w _) (by simp) ho.out hg1⟩
theorem RV.sub {w : World} {ad : Addr} {n c p q c' : Nat} {us : List Value} (h : RV w (.slice (some ad) n c) us) (hpq : p + q ≤ us.length) (hc : q ≤ c') : RV w (.slice (some (ad.add p)) q c') ((us.drop p).take q) := by
  obtain ⟨A, c1, e, h2, h3, h4⟩ := h
  simp only [Value.slice.injEq] at e
  obtain ⟨rfl, -, -⟩ := e
  have hlen : ((us.drop p).take q).length = q := by rw [List.length_take, List.length_drop]; omega
  refine ⟨some (ad.add p), c', by rw [hlen], by rw [hlen]; exact hc, by rw [hlen]; omega, fun k hk => ?_⟩
  rw [hlen] at hk
  obtain ⟨ad', he, hb, hc2⟩ := h4 (p + k) (by omega)
  cases he
  refine ⟨ad.add p, rfl, by rw [block_of_add]; exact hb, ?_⟩
  rw [add_of_add, hc2, List.getElem?_take, List.getElem?_drop, if_pos hk]
/-- A row of the matrix, in the iterator's hands. -/
def RowIt := Nat × Nat × List Int
def RowIt.val (x : RowIt) : Value := .slice (some ⟨x.1, 0, none⟩) x.2.2.length x.2.1
/-- Row i of a matrix of n columns. -/
def rowZ (n : Nat) (zs : List Int) (i : Nat) : List Int := (zs.drop (i * n)).take n
def rowIt (Bk n : Nat) (zs : List Int) (pre : List RowIt) (x : RowIt) (W : World) : Prop :=
  OV W Bk 35 x.val (x.2.2.map zV) ∧ x.2.2 = rowZ n zs pre.length ∧ pre.length < n ∧ (∀ y ∈ pre, y.1 ≠ x.1) ∧ Bk ≤ x.1 ∧ x.1 < W.heap.size
/-- What a round keeps. -/
def keepB (Bk : Nat) (A C : World) : Prop := A.heap.size ≤ C.heap.size ∧ ∀ k, k < Bk → C.heap[k]? = A.heap[k]?
def rowPre (hx Bk n cap : Nat) (A : Option Addr) (zs : List Int) (W : World) : Prop :=
  BL W hx 84 [.int .i64 (n : Int), .int .i64 (n : Int), .slice A zs.length cap] ∧ RV W (.slice A zs.length cap) (zs.map zV) ∧ hx < Bk ∧ (0 < zs.length → ∀ ad, A = some ad → ad.block < Bk) ∧ Bk ≤ W.heap.size
theorem rowPre.keep {hx Bk n cap : Nat} {A : Option Addr} {zs : List Int} {W W' : World} (h : rowPre hx Bk n cap A zs W) (hk : keepB Bk W W') : rowPre hx Bk n cap A zs W' := by
  obtain ⟨h1, ⟨A', c', e, e2, e3, e4⟩, h3, h4, h5⟩ := h
  refine ⟨(hk.2 _ h3).trans h1, ⟨A', c', e, e2, e3, fun k hkl => ?_⟩, h3, h4, Nat.le_trans h5 hk.1⟩
  obtain ⟨ad, rfl, hb, hc⟩ := e4 k hkl
  have hA : A = some ad := by simp only [Value.slice.injEq] at e; exact e.1
  refine ⟨ad, rfl, Nat.lt_of_lt_of_le hb hk.1, ?_⟩
  rw [← hc]
  exact World.cell?_of_block (by rw [block_of_add]; exact hk.2 _ (h4 (by rw [List.length_map] at hkl; omega) ad hA))
theorem rowPre.below {hx Bk n cap : Nat} {A : Option Addr} {zs : List Int} {W W' : World} (h : rowPre hx Bk n cap A zs W) (hb : Below W.heap.size W W') : rowPre hx Bk n cap A zs W' :=
  h.keep ⟨hb.size, fun k hk => hb.block k (Nat.lt_of_lt_of_le hk h.2.2.2.2)⟩
end Go.Proofs.YtjfggodnfoknfaaGreatDoor

namespace Go.Proofs.YtjfggodnfoknfaaGreatDoor
open Go.RowKit Go.Shelf
attribute [local go_sem] Oper.semAt_some
def mkR (g c : Nat) (l : List Int) : RowIt := (g, c, l)
theorem rows1_iter (hx Bk n cap : Nat) (A : Option Addr) (zs : List Int) (hzl : zs.length = n * n) (hn : n ≤ 5) (hcap : zs.length ≤ cap) :
    IterC Tryz.prog 157 #[.pointer (some ⟨hx, 0, none⟩)] (fun x : RowIt => #[x.val]) (rowIt Bk n zs)
      (fun A B => Below A.heap.size A B) (keepB Bk) (fun xs => xs.map (·.2.2) = (List.range n).map (rowZ n zs) ∧ (xs.map (·.1)).Nodup) (fun _ => True) (rowPre hx Bk n cap A zs) := by
  intro N l J Jx W hpre hJ hJx hY h0
  have HJ := Lib.hid hJ
  have HY := Lib.hid hY
  have HP := Lib.hid hpre
  have c0 : W.cell? ⟨hx, 0, none⟩ = some (.int .i64 (n : Int)) := hpre.1.cell 0
  have HZL := Lib.hid hzl
  clear hJ hY hpre hJx hzl
  refine callsIn_of_wp Tryz.func157 rfl trivial ?_ rfl
  simp only [Tryz.ntmps157, List.size_toArray, List.length_cons, List.length_nil, Nat.reduceAdd, Nat.reduceSub, Array.replicate_succ, Array.replicate_zero, List.push_toArray, List.append_toArray, List.nil_append, List.cons_append]
  gi_wp2
  clear c0
  gi_loopg [6] n (fun k i wr => ∃ (j : Nat) (pre : List RowIt), Hid (j + k = n) ∧ i = .int .i64 j ∧ Hid (J pre wr) ∧ Hid (pre.length = j) ∧ Hid (pre.map (·.2.2) = (List.range j).map (rowZ n zs)) ∧ Hid ((pre.map (·.1)).Nodup) ∧ Hid (∀ y ∈ pre, y.1 < wr.heap.size) ∧ Hid (rowPre hx Bk n cap A zs wr))
  case atStart => exact ⟨0, [], by (show 0 + n = n; omega), rfl, h0, rfl, rfl, List.nodup_nil, (fun y hy => by cases hy), HP.out⟩
  case round =>
    obtain ⟨j, pre, hjk, rfl, hj, hlen, hrows, hnd, hlt, hpr⟩ := hrel
    by_cases hjn : j < n
    · have hjk2 := hjk.out
      have k1 : wr.cell? ⟨hx, 1, none⟩ = some (.int .i64 (n : Int)) := hpr.out.1.cell 1
      have k2 : wr.cell? ⟨hx, 2, none⟩ = some (.slice A zs.length cap) := hpr.out.1.cell 2
      have hp : (j : Int) * (n : Int) = ((j * n : Nat) : Int) := by simp
      have hp1 : ((j : Int) + 1) * (n : Int) = ((j * n + n : Nat) : Int) := by push_cast; rw [Int.add_mul, Int.one_mul]
      have hle : j * n + n ≤ zs.length := by
        rw [HZL.out]
        have := Nat.mul_le_mul_right n (show j + 1 ≤ n by omega)
        rwa [Nat.succ_mul] at this
      have hle2 : zs.length ≤ 25 := by rw [HZL.out]; exact Nat.le_trans (Nat.mul_le_mul hn hn) (by omega)
      have HRow : Hid ((zs.drop (j * n)).take n = rowZ n zs j) := rfl
      generalize j * n = p at *
      have q1 : wrap64 (p : Int) = (p : Int) := wrap64_small p (by omega)
      have q2 : wrap64 ((p + n : Nat) : Int) = ((p + n : Nat) : Int) := wrap64_small _ (by omega)
      have q3 : wrap64 ((j : Int) + 1) = (j : Int) + 1 := by rw [IntWalk.wrap64_in] <;> omega
      clear hjk2
      obtain ⟨ad, rfl, hadb, -⟩ := (hpr.out.2.1).cellz (show 0 < zs.length by omega)
      have hsub := RV.sub (p := p) (q := n) (c' := cap - p) hpr.out.2.1 (by rw [List.length_map]; omega) (by omega)
      rw [← List.map_drop, ← List.map_take, HRow.out] at hsub
      have hrl : (rowZ n zs j).length = n := by rw [← HRow.out, List.length_take, List.length_drop]; omega
      have HC := Lib.hid (cloneT_any _ _ _ (rowZ n zs j) wr hsub (by omega) (by omega))
      have HRl := Lib.hid hrl
      clear hsub hrl
      have hrl2 : Hid (∀ (g cap1 : Nat) (W2 : World), Below wr.heap.size wr W2 → wr.heap.size ≤ g → g < W2.heap.size → OV W2 wr.heap.size 35 (.slice (some ⟨g, 0, none⟩) (rowZ n zs j).length cap1) ((rowZ n zs j).map zV) → rowIt Bk n zs pre (mkR g cap1 (rowZ n zs j)) W2) := fun g cap1 W2 hb hg hg2 ho =>
        ⟨ho.mono hpr.out.2.2.2.2, by rw [hlen.out]; rfl, by rw [hlen.out]; exact hjn, fun y hy e => by
          have := hlt.out y hy
          simp only [mkR] at e
          omega, Nat.le_trans hpr.out.2.2.2.2 hg, hg2⟩
      gi_wp2_with fail
      refine ⟨trivial, fun h => (by simp [Fence.wide] at h), (callsIn_wide.2 HC.out).mono ?_⟩
      rintro e w1 ⟨g, cap1, rfl, hg1, hg2, ho1, hb1⟩
      have hJ1 := HJ.out pre wr w1 hj.out hb1
      have hIt := hrl2.out g cap1 w1 hb1 hg1 hg2 ho1
      obtain ⟨fn, tmps, assign, body, hy, hRd⟩ := HY.out pre (mkR g cap1 (rowZ n zs j)) w1 hJ1 hIt
      dsimp only [RowIt.val, mkR] at hy hRd
      have HR := Lib.hid hRd
      have HPr1 := Lib.hid (hpr.out.below hb1)
      have HFr := Lib.hid (show (∀ y ∈ pre, y.1 ≠ g) ∧ (∀ y ∈ pre, y.1 < w1.heap.size) ∧ g < w1.heap.size from ⟨hIt.2.2.2.1, fun y hy => Nat.lt_of_lt_of_le (hlt.out y hy) hb1.size, hg2⟩)
      clear hRd hJ1 hIt ho1 hb1 hg1 hg2 HC hrl2
      gi_wp2_with fail
      refine ⟨fun h => (by simp [Fence.wide] at h), HR.out.mono ?_⟩
      rintro e W2 (⟨rfl, hJ2, hk2⟩ | ⟨rfl, hJx2⟩)
      · have HJ2 := Lib.hid hJ2
        have HK2 := Lib.hid hk2
        clear hJ2 hk2 hy
        gi_wp2
        gi_roundg (gk - 1)
        case measure => have := hjk.out; omega
        case rel =>
          refine ⟨j + 1, pre ++ [mkR g cap1 (rowZ n zs j)], ?_, by go_num, HJ2.out, ?_, ?_, ?_, ?_, HPr1.out.keep HK2.out⟩
          · have := hjk.out; show _ = _; omega
          · show _ = _; rw [List.length_append, hlen.out]; rfl
          · show _ = _; rw [List.map_append, hrows.out, List.range_succ, List.map_append]; rfl
          · show List.Nodup _
            rw [List.map_append, List.nodup_append]
            refine ⟨hnd.out, by simp, fun a ha b hb => ?_⟩
            obtain ⟨y, hy, rfl⟩ := List.mem_map.1 ha
            simp only [List.map_cons, List.map_nil, List.mem_singleton] at hb
            rw [hb]; exact HFr.out.1 y hy
          · intro y hy
            rcases List.mem_append.1 hy with hy | hy
            · exact Nat.lt_of_lt_of_le (HFr.out.2.1 y hy) HK2.out.1
            · rw [List.mem_singleton.1 hy]; exact Nat.lt_of_lt_of_le HFr.out.2.2 HK2.out.1
      · clear hy
        gi_wp2
        refine bodyPost_ret (results_none rfl _ _ _) rfl ?_
        exact ⟨⟨_, rfl⟩, .inr ⟨pre ++ [mkR g cap1 (rowZ n zs j)], trivial, hJx2⟩⟩
    · obtain rfl : j = n := by have := hjk.out; omega
      gi_wp2
      go_end0
      exact ⟨⟨_, rfl⟩, .inl ⟨pre, ⟨hrows.out, hnd.out⟩, hj.out⟩⟩
end Go.Proofs.YtjfggodnfoknfaaGreatDoor

namespace Go.Proofs.YtjfggodnfoknfaaGreatDoor
open Go.RowKit Go.Shelf
attribute [local go_sem] Oper.semAt_some
theorem tslice_info : (Tryz.prog.info? 82).map (fun i => (i.zero, i.size, i.bytes)) = some (some (.slice none 0 0), 1, 24) := by kernel_rfl
theorem ovOther {w : World} {B : Nat} {e : TypeId} {v : Value} {us : List Value} (h : OV w B e v us) {l : Nat} {o' : Obj} (hl : w.heap[l]? = some o') (ho : o'.isCells = false) (o : Obj) : OV (w.putObj l o) B e v us := by
  refine ⟨h.1.kept (grownBy_putObj' w l o) ?_, h.2⟩
  rcases h.1.2 with ⟨rfl, _⟩ | ⟨g, cap, cur, rfl, _, hh, _⟩
  · exact .inl rfl
  · right
    intro e'
    simp only [Value.ownBlock, Option.some.injEq] at e'
    subst e'
    rw [hl] at hh; injection hh with hh; subst hh; cases ho
/-- The rows that have come. -/
def CollT (w : World) (pre : List RowIt) (W : World) : Prop :=
  (∃ v, BL W w.heap.size 123 [v] ∧ OV W (w.heap.size + 1) 82 v (pre.map RowIt.val)) ∧ (∀ x ∈ pre, OV W w.heap.size 35 x.val (x.2.2.map zV)) ∧ Below w.heap.size w W
theorem keepB_trans {Bk : Nat} (A B C : World) (h : keepB Bk A B) (k : keepB Bk B C) : keepB Bk A C := ⟨Nat.le_trans h.1 k.1, fun x hx => (k.2 x hx).trans (h.2 x hx)⟩
theorem keepB_put {Bk l : Nat} (W : World) (o : Obj) (h : Bk ≤ l) : keepB Bk W (W.putObj l o) := ⟨by simp [World.putObj], fun k hk => World.putObj_heap_other (by omega)⟩
theorem RowIt.shape (x : RowIt) : x.val = .slice (some ⟨x.1, 0, none⟩) x.2.2.length x.2.1 := rfl
theorem appendSeqT_any (hx n cap : Nat) (A : Option Addr) (zs : List Int) (w : World) (hzl : zs.length = n * n) (hn : n ≤ 5) (hcap : zs.length ≤ cap) (hpre : rowPre hx w.heap.size n cap A zs w) :
    Calls Tryz.prog 156 #[.slice none 0 0, .func (.func 157) #[] #[.pointer (some ⟨hx, 0, none⟩)]] w fun e w' =>
      ∃ (v : Value) (items : List RowIt), e = .returned v ∧ OV w' (w.heap.size + 1) 82 v (items.map RowIt.val) ∧ (∀ x ∈ items, OV w' w.heap.size 35 x.val (x.2.2.map zV)) ∧ (items.map (·.2.2) = (List.range n).map (rowZ n zs) ∧ (items.map (·.1)).Nodup) ∧ Below w.heap.size w w' := by
  obtain ⟨i0, hi, hz0, hz1, hz2⟩ := info_parts tslice_info
  have HP := Lib.hid hpre
  have HIt := Lib.hid (rows1_iter hx w.heap.size n cap A zs hzl hn hcap)
  clear hpre hzl hcap
  refine (callsIn_wide (n := 3)).1 ?_
  refine callsIn_of_wp_marks Tryz.func156 rfl trivial ?_ rfl
  simp only [Tryz.ntmps156, List.size_toArray, List.length_cons, List.length_nil, Nat.reduceAdd, Nat.reduceSub, Array.replicate_succ, Array.replicate_zero, List.push_toArray, List.append_toArray, List.nil_append, List.cons_append]
  gi_wp2
  have hbb := below_alloc w (.cells #[.slice none 0 0] 123)
  refine wpIn_rangeFunc_iter (gf := 157) (lb := #[.pointer (some ⟨hx, 0, none⟩)]) rfl (enters_of Tryz.func157 (by kernel_rfl) rfl)
    HIt.out (fun _ => rfl) ?hR keepB_trans ?hKp ?hIt (CollT w) (fun _ _ _ => False) ?hI (fun _ _ _ _ _ h _ => h) ?hIR (fun _ _ _ _ h _ => h) ?hpre ?h0
    (fun x => { tmps := #[.slice none 0 0, .func (.func 157) #[] #[.pointer (some ⟨hx, 0, none⟩)], .pointer (some ⟨w.heap.size, 0, none⟩), undef, .slice none 0 0, x.val, .func (.func 157) #[] #[.pointer (some ⟨hx, 0, none⟩)], x.val, undef, undef, undef, undef, undef], defers := [] }) ?assign ?body ?done ?stop
  case hR => intro A B h hs; exact ⟨h.block _ (by simp at hs ⊢; omega), h.block _ (by simp at hs ⊢; omega)⟩
  case hKp => intro W r o _; exact keepB_put W _ (by simp; omega)
  case hIt =>
    intro pre x W r o h hl
    exact ⟨ovLoop h.1 hl o, h.2.1, h.2.2.1, h.2.2.2.1, h.2.2.2.2.1, by have := h.2.2.2.2.2; simpa [World.putObj] using this⟩
  case hI =>
    rintro pre W r o ⟨⟨v, h1, h2⟩, h3, h4⟩ hl
    exact ⟨⟨v, h1.putLoop hl o, ovLoop h2 hl o⟩, fun x hx => ovLoop (h3 x hx) hl o, below_putLoop h4 (by simp; omega) o⟩
  case hIR =>
    rintro pre A B ⟨⟨v, h1, h2⟩, h3, h4⟩ hr
    exact ⟨⟨v, h1.bel hr, h2.below hr⟩, fun x hx => (h3 x hx).below hr, h4.trans (hr.mono h4.size)⟩
  case hpre =>
    intro r
    exact HP.out.below ((((Below.refl _ w).alloc (Nat.le_refl _) _).alloc (by simp) _).alloc (by simp; omega) _)
  case h0 =>
    intro r
    have hb3 := ((below_alloc (w.alloc (.cells #[.slice none 0 0] 123)) (.deferred (some []))).alloc (by simp) (.loop r))
    exact ⟨⟨_, (BL.new' w #[.slice none 0 0] 123).bel hb3, OV.nil_ _ _ _⟩, fun x hx => by simp at hx, hbb.trans (hb3.mono hbb.size)⟩
  case assign =>
    intro l x W K hK
    gi_wp2
    exact hK
  case body =>
    rintro l pre x W r ⟨⟨v, h1, h2⟩, h3, h4⟩ ⟨hit, hrow, hlen, hfr, hg1, hg2⟩ hl hd
    rw [RowIt.shape] at hit ⊢
    have hc1 : W.cell? ⟨w.heap.size, 0, none⟩ = some v := h1.cell 0
    have hx1 := Lib.hid (RV.ones W (.slice (some ⟨x.1, 0, none⟩) x.2.2.length x.2.1) 82)
    have hba := below_alloc W (.cells #[.slice (some ⟨x.1, 0, none⟩) x.2.2.length x.2.1] 82)
    have ho := Lib.hid (h2.below hba)
    have hone := Lib.hid (one_ones (u := .slice (some ⟨x.1, 0, none⟩) x.2.2.length x.2.1) rfl)
    have hsb : w.heap.size < W.heap.size := h1.lt
    have H1 := Lib.hid (h1.bel hba)
    have H3 := Lib.hid (fun y hy => (h3 y hy).below hba)
    have HT := Lib.hid (hit.below hba)
    have H4 := Lib.hid h4
    have HL := Lib.hid hl
    have HD := Lib.hid hd
    simp only [World.size_alloc] at HL HD
    have HLp : Hid ((pre.map RowIt.val).length ≤ 1000) := by show _ ≤ _; rw [List.length_map]; omega
    clear h2 h3 h4 hit hl hd h1 hba hrow hlen hfr
    gi_wp2_with (gi_at_builtin; refine wpListIn_appendV _ rfl _ _ _ rfl 82 i0 _ 24 Tryz.underlying123 hi hz0 hz1 hz2 rfl (w.heap.size + 1) _ _ rfl ho.out _ _ rfl hx1.out hone.out (by have := HLp.out; simp at this ⊢; omega) (by have := HLp.out; simp at this ⊢; omega) (by simp; omega) ?_; intro v1 w1 hown1 hg1 hat1; obtain ⟨gv, cap1, rfl, hgB, hgl⟩ := OV.shape hown1 (by simp); have HO := Lib.hid hown1; have hg0 := Lib.hid hg1; have hbx := ovBox H1.out ho.out (by decide) hg1; have HBX := Lib.hid hbx; have hcb : w1.cell? ⟨w.heap.size, 0, none⟩ = some v := hbx.cell 0; have hfb := hbx.frozen 0; clear hown1 hg1 hat1 hbx)
    have hg : (W.alloc (.cells #[.slice (some ⟨x.1, 0, none⟩) x.2.2.length x.2.1] 82)).grownBy w1 v.ownBlock := hg0.out
    have hn1 : ((pre.map RowIt.val) ++ [Value.slice (some ⟨x.1, 0, none⟩) x.2.2.length x.2.1]).length = pre.length + 1 := by simp
    have HO2 := HO.out
    rw [hn1] at HO2
    have hset := grownBy_setCell' w1 w.heap.size (.slice (some ⟨gv, 0, none⟩) (pre.length + 1) cap1)
    have hWl : w.heap.size + 1 + 1 < W.heap.size := lt_of_block HL.out
    have hsz := hg.size
    simp only [World.size_alloc] at hsz
    have step : ∀ k, k < W.heap.size → k ≠ w.heap.size → some k ≠ v.ownBlock → (w1.setCell ⟨w.heap.size, 0, none⟩ (.slice (some ⟨gv, 0, none⟩) (pre.length + 1) cap1)).heap[k]? = W.heap[k]? := by
      intro k hk hk1 hk2
      exact (hset.block k (by omega) (by simp; exact hk1)).trans ((hg.block k (by simp; omega) hk2).trans (Below.heap_alloc _ _ _ hk))
    have hnc : ∀ k o, k < W.heap.size → W.heap[k]? = some o → o.isCells = false → some k ≠ v.ownBlock := by
      intro k o hk ho1 ho2 hv
      obtain ⟨cur, hc⟩ := ho.out.blk hv.symm
      rw [Below.heap_alloc _ _ _ hk, ho1] at hc
      injection hc with hc
      subst hc
      cases ho2
    have hlow : ∀ k, k < w.heap.size + 1 → some k ≠ v.ownBlock := fun k hk e => by have := (ho.out.1.lt k e.symm).1; omega
    have hbel : Below w.heap.size w w1 := below_own ((H4.out.trans ((below_alloc W _).mono H4.out.size))) (by simp; omega) (ho.out.mono (by omega)) hg
    have hD2 : W.heap[(w.alloc (.cells #[.slice none 0 0] 123)).heap.size]? = some (.deferred (some [])) := by rw [World.size_alloc]; exact HD.out
    have hL2 : W.heap[(w.alloc (.cells #[.slice none 0 0] 123)).heap.size + 1]? = some (.loop r) := by rw [World.size_alloc]; exact HL.out
    refine ⟨⟨step _ (by simp; omega) (by simp) (hnc _ _ (by simp; omega) hD2 rfl), step _ (by simp; omega) (by simp; omega) (hnc _ _ (by simp; omega) hL2 rfl)⟩, ⟨by simp; omega, fun k hk => step k (by omega) (by omega) (hlow k (by omega))⟩, ⟨_, HBX.out.set 0 _, ?_⟩, ?_, ?_⟩
    · rw [List.map_append, List.map_cons, List.map_nil, RowIt.shape]
      exact OV.keptBox HO2 HBX.out (by decide) hset
    · intro y hy
      have : OV (W.alloc (.cells #[.slice (some ⟨x.1, 0, none⟩) x.2.2.length x.2.1] 82)) w.heap.size 35 y.val (y.2.2.map zV) := by
        rcases List.mem_append.1 hy with hy | hy
        · exact H3.out y hy
        · rw [List.mem_singleton.1 hy]; exact HT.out
      exact OV.keptBox (OV.keptOwn this ho.out (by decide) hg) HBX.out (by decide) hset
    · exact hbel.setCell (p := ⟨w.heap.size, 0, none⟩) (by simp) _
  case done =>
    rintro xs W hS ⟨⟨v, h1, h2⟩, h3, h4⟩ hD
    have hc1 : W.cell? ⟨w.heap.size, 0, none⟩ = some v := h1.cell 0
    obtain ⟨A9, c9, rfl, -⟩ := h2.rv
    rw [List.length_map] at h2 hc1
    have H2 := Lib.hid h2
    have H3 := Lib.hid h3
    have H4 := Lib.hid h4
    have HS := Lib.hid hS
    have HD := Lib.hid hD
    clear h1 h2 h3 h4 hD hS
    gi_wp2
    refine ⟨by simp, .inl ⟨_, _, rfl, run_takeDeferred HD.out, ?_⟩⟩
    exact ⟨_, results_tmp rfl _ _ _, _, xs, rfl, ovOther H2.out HD.out rfl _, fun x hx => ovOther (H3.out x hx) HD.out rfl _, HS.out, below_putLoop H4.out (by simp) _⟩
  case stop => rintro c pre W _ h _; exact h.elim
theorem collectT_any (hx n cap : Nat) (A : Option Addr) (zs : List Int) (w : World) (hzl : zs.length = n * n) (hn : n ≤ 5) (hcap : zs.length ≤ cap) (hpre : rowPre hx w.heap.size n cap A zs w) :
    Calls Tryz.prog 128 #[.func (.func 157) #[] #[.pointer (some ⟨hx, 0, none⟩)]] w fun e w' =>
      ∃ (v : Value) (items : List RowIt), e = .returned v ∧ OV w' (w.heap.size + 1) 82 v (items.map RowIt.val) ∧ (∀ x ∈ items, OV w' w.heap.size 35 x.val (x.2.2.map zV)) ∧ (items.map (·.2.2) = (List.range n).map (rowZ n zs) ∧ (items.map (·.1)).Nodup) ∧ Below w.heap.size w w' := by
  have h := Lib.hid (appendSeqT_any hx n cap A zs w hzl hn hcap hpre)
  clear hzl hcap hpre
  go_enter Tryz.func128, Tryz.ntmps128
  go_wp2_with fail
  refine h.out.mono ?_
  rintro e w2 ⟨v, items, rfl, r1, r2, r3, r4⟩
  obtain ⟨A9, c9, rfl, -⟩ := r1.rv
  rw [List.length_map] at r1 ⊢
  have R1 := Lib.hid r1
  have R2 := Lib.hid r2
  have R3 := Lib.hid r3
  have R4 := Lib.hid r4
  clear r1 r2 r3 r4
  go_wp2
  go_ret
  exact ⟨_, items, rfl, R1.out, R2.out, R3.out, R4.out⟩
end Go.Proofs.YtjfggodnfoknfaaGreatDoor

namespace Go.Proofs.YtjfggodnfoknfaaGreatDoor
open Go.RowKit
/-- Where the rows lie. -/
structure ElS (B0 X R m : Nat) (g : Nat → Nat) : Prop where
  hX : B0 ≤ X
  hR : B0 ≤ R
  hg : ∀ i, i < m → B0 ≤ g i
  gX : ∀ i, i < m → g i ≠ X
  gR : ∀ i, i < m → g i ≠ R
  RX : R ≠ X
  inj : ∀ i j, i < m → j < m → g i = g j → i = j
/-- The table in memory. -/
def ELT (B0 : Nat) (w0 : World) (X R m capR : Nat) (g cp : Nat → Nat) (last : Int) (rank : Nat) (T : Nat → Nat → Int) (W : World) : Prop :=
  BL W X 125 [.slice (some ⟨R, 0, none⟩) m capR, zV last, .int .i64 1, .int .i64 (rank : Int), .int .i64 0] ∧
  (∀ i, i < m → W.cell? ⟨R, i, none⟩ = some (.slice (some ⟨g i, 0, none⟩) m (cp i))) ∧
  (∀ i j, i < m → j < m → W.cell? ⟨g i, j, none⟩ = some (zV (T i j)) ∧ W.frozen? ⟨g i, j, none⟩ = false) ∧
  Below B0 w0 W
theorem ELT.below {B0 X R m capR rank : Nat} {w0 W W' : World} {g cp : Nat → Nat} {last : Int} {T : Nat → Nat → Int} (h : ELT B0 w0 X R m capR g cp last rank T W) (hB : B0 ≤ W.heap.size) (hb : Below W.heap.size W W') : ELT B0 w0 X R m capR g cp last rank T W' := by
  obtain ⟨h1, h2, h3, h4⟩ := h
  refine ⟨h1.bel hb, fun i hi => ?_, fun i j hi hj => ?_, h4.trans (hb.mono hB)⟩
  · exact (hb.cell (World.block_lt_of_cell? _ _ (h2 i hi))).trans (h2 i hi)
  · obtain ⟨c, f⟩ := h3 i j hi hj
    have hl := World.block_lt_of_cell? _ _ c
    exact ⟨(hb.cell hl).trans c, (hb.frozen hl).trans f⟩
theorem ELT.congr {B0 X R m capR rank : Nat} {w0 W : World} {g cp : Nat → Nat} {last : Int} {T T' : Nat → Nat → Int} (h : ELT B0 w0 X R m capR g cp last rank T W) (ht : ∀ i j, i < m → j < m → T i j = T' i j) : ELT B0 w0 X R m capR g cp last rank T' W := by
  obtain ⟨h1, h2, h3, h4⟩ := h
  exact ⟨h1, h2, fun i j hi hj => by rw [← ht i j hi hj]; exact h3 i j hi hj, h4⟩
theorem ELT.set {B0 X R m capR rank : Nat} {w0 W : World} {g cp : Nat → Nat} {last : Int} {T : Nat → Nat → Int} (h : ELT B0 w0 X R m capR g cp last rank T W) (hs : ElS B0 X R m g) {i j : Nat} (hi : i < m) (hj : j < m) (x : Int) :
    ELT B0 w0 X R m capR g cp last rank (fun a b => if a = i ∧ b = j then x else T a b) (W.setCell ⟨g i, j, none⟩ (zV x)) := by
  obtain ⟨h1, h2, h3, h4⟩ := h
  refine ⟨h1.set_other (fun e => hs.gX i hi e.symm) _, fun a ha => ?_, fun a b ha hb => ?_, h4.setCell (p := ⟨g i, j, none⟩) (hs.hg i hi) _⟩
  · rw [World.cell?_setCell_far _ _ _ _ (show g i ≠ R from hs.gR i hi)]; exact h2 a ha
  · rw [World.frozen?_setCell]
    refine ⟨?_, (h3 a b ha hb).2⟩
    dsimp only
    by_cases hab : a = i ∧ b = j
    · obtain ⟨rfl, rfl⟩ := hab
      rw [if_pos ⟨rfl, rfl⟩]
      exact World.cell?_setCell_same _ _ _ (h3 a b ha hb).1
    · rw [if_neg hab, World.cell?_setCell_other]
      · exact (h3 a b ha hb).1
      · intro e
        simp only [Addr.mk.injEq] at e
        exact hab ⟨(hs.inj i a hi ha e.1).symm, e.2.1.symm⟩
theorem ELT.head {B0 X R m capR rank : Nat} {w0 W : World} {g cp : Nat → Nat} {last : Int} {T : Nat → Nat → Int} (h : ELT B0 w0 X R m capR g cp last rank T W) (hs : ElS B0 X R m g) (x : Int) (r : Nat) :
    ELT B0 w0 X R m capR g cp x r T ((W.setCell ⟨X, 1, none⟩ (zV x)).setCell ⟨X, 3, none⟩ (.int .i64 (r : Int))) := by
  obtain ⟨h1, h2, h3, h4⟩ := h
  refine ⟨(h1.set 1 _).set 3 _, fun a ha => ?_, fun a b ha hb => ?_, (h4.setCell (p := ⟨X, 1, none⟩) hs.hX _).setCell (p := ⟨X, 3, none⟩) hs.hX _⟩
  · rw [World.cell?_setCell_far _ _ _ _ (show X ≠ R from hs.RX.symm), World.cell?_setCell_far _ _ _ _ (show X ≠ R from hs.RX.symm)]; exact h2 a ha
  · rw [World.frozen?_setCell, World.frozen?_setCell, World.cell?_setCell_far _ _ _ _ (show X ≠ g a from (hs.gX a ha).symm), World.cell?_setCell_far _ _ _ _ (show X ≠ g a from (hs.gX a ha).symm)]
    exact h3 a b ha hb
/-- The table where the rows between k and i are done, and the first j entries of row i. -/
def updT (T r : Nat → Nat → Int) (k i j : Nat) (a b : Nat) : Int := if (k < a ∧ a < i) ∨ (a = i ∧ b < j) then r a b else T a b
theorem updT_start (T r : Nat → Nat → Int) (k a b : Nat) : updT T r k (k + 1) 0 a b = T a b := by
  unfold updT; rw [if_neg (by omega)]
theorem updT_row (T r : Nat → Nat → Int) {k i m : Nat} (hk : k < i) (a b : Nat) (hb : b < m) : updT T r k i m a b = updT T r k (i + 1) 0 a b := by
  unfold updT
  by_cases h : (k < a ∧ a < i) ∨ (a = i ∧ b < m)
  · rw [if_pos h, if_pos (by omega)]
  · rw [if_neg h, if_neg (by omega)]
theorem updT_step (T r : Nat → Nat → Int) {k i j : Nat} (a b : Nat) : (if a = i ∧ b = j then r i j else updT T r k i j a b) = updT T r k i (j + 1) a b := by
  unfold updT
  by_cases h : a = i ∧ b = j
  · obtain ⟨rfl, rfl⟩ := h
    rw [if_pos ⟨rfl, rfl⟩, if_pos (by omega)]
  · rw [if_neg h]
    by_cases h2 : (k < a ∧ a < i) ∨ (a = i ∧ b < j)
    · rw [if_pos h2, if_pos (by omega)]
    · rw [if_neg h2, if_neg (by omega)]
theorem updT_here (T r : Nat → Nat → Int) {k i j : Nat} (b : Nat) (hb : j ≤ b) : updT T r k i j i b = T i b := by unfold updT; rw [if_neg (by omega)]
theorem updT_piv (T r : Nat → Nat → Int) {k i j : Nat} (b : Nat) (hk : k < i) : updT T r k i j k b = T k b := by unfold updT; rw [if_neg (by omega)]
end Go.Proofs.YtjfggodnfoknfaaGreatDoor

namespace Go.Proofs.YtjfggodnfoknfaaGreatDoor
open Go.RowKit
theorem col_end (X R m capR k : Nat) (g cp : Nat → Nat) (last : Int) (T U : Nat → Nat → Int) (w0 W : World) (hs : ElS w0.heap.size X R m g) (he : ELT w0.heap.size w0 X R m capR g cp last k T W) (x : Int) (hU : ∀ a b, a < m → b < m → T a b = U a b) :
    ELT w0.heap.size w0 X R m capR g cp x (k + 1) U ((W.setCell ⟨X, 1, none⟩ (zV x)).setCell ⟨X, 3, none⟩ (.int .i64 ((k : Int) + 1))) := by
  have := (he.congr hU).head hs x (k + 1)
  simpa using this
theorem column_any (X R m capR k : Nat) (g cp : Nat → Nat) (last : Int) (T r : Nat → Nat → Int) (w0 w : World) (hs : ElS w0.heap.size X R m g) (he : ELT w0.heap.size w0 X R m capR g cp last k T w) (hB : w0.heap.size ≤ w.heap.size) (hk : k < m) (hm : m ≤ 4) (hcap : m ≤ capR)
    (hpiv : T k k ≠ 0) (hT : ∀ i j, i < m → j < m → (T i j).natAbs < 1000000000) (hl : last.natAbs < 1000000000) (hl0 : last ≠ 0)
    (hred : ∀ i j, k < i → i < m → j < m → T i j * T k k - T i k * T k j = last * r i j ∧ (T i j * T k k).natAbs + (T i k * T k j).natAbs < 1000000000) (ht : TB w0) :
    Calls Tryz.prog 130 #[.pointer (some ⟨X, 0, none⟩), .int .i64 (k : Int)] w fun e w' => (∃ v, e = .returned v) ∧ ELT w0.heap.size w0 X R m capR g cp (T k k) (k + 1) (updT T r k m 0) w' ∧ w0.heap.size ≤ w'.heap.size := by
  have HRed : Hid (∀ (W : World) i j, k < i → i < m → j < m → ELT w0.heap.size w0 X R m capR g cp last k (updT T r k i j) W →
      Hid (Calls Tryz.prog 159 #[.pointer (some ⟨X, 0, none⟩), zV (T i j), zV (T k k), zV (T i k), zV (T k j)] W.drew fun e w' => e = .returned (zV (r i j)) ∧ Below W.heap.size W w')) := fun W i j h1 h2 h3 h4 =>
    (reduced_any X _ _ _ (T i j) (T k k) (T i k) (T k j) last (r i j) W.drew h4.1.drew (hT i j h2 h3) (hT k k (by omega) (by omega)) (hT i k h2 (by omega)) (hT k j (by omega) h3) (hred i j h1 h2 h3).2 hl hl0 (hred i j h1 h2 h3).1 (ht.below h4.2.2.2.drew)).mono fun _ _ h => ⟨h.1, (Below.refl _ _).drew.trans h.2⟩
  have HS := Lib.hid hs
  have HE := Lib.hid he
  have HB := Lib.hid hB
  obtain ⟨Sp, hSp⟩ : ∃ Sp, zV (T k k) = .string Sp := ⟨_, rfl⟩
  have h48 : (⟨#[48]⟩ : ByteArray).toList = [48] := ByteArray.toList_mk [48]
  have hne : (Sp.toList == [48]) = false := by
    have e : Sp = ⟨(Go.Lib.itoa (T k k)).toArray⟩ := by unfold zV at hSp; cases hSp; rfl
    rw [e, ByteArray.toList_mk, beq_eq_false_iff_ne]
    intro h
    refine hpiv (itoa_inj (hT k k hk hk) (by decide) (h.trans ?_))
    rw [show (0 : Int) = ((0 : Nat) : Int) from rfl, itoa_nat, dec_zero]
  have x0 : w.cell? ⟨X, 0, none⟩ = some (.slice (some ⟨R, 0, none⟩) m capR) := he.1.cell 0
  have x3 : w.cell? ⟨X, 3, none⟩ = some (.int .i64 (k : Int)) := he.1.cell 3
  have rk := he.2.1 k hk
  have pk := (he.2.2.1 k k hk hk).1
  rw [hSp] at pk
  have HSp := Lib.hid hSp
  have t1 : (k : Int) < (m : Int) := by omega
  have t2 : ((k : Int) == (m : Int)) = false := by simp; omega
  have t3 : wrap64 ((k : Int) + 1) = (k : Int) + 1 := by rw [IntWalk.wrap64_in] <;> omega
  have t4 : ¬ (m : Int) < (k : Int) + 1 := by omega
  have HCol : Hid (∀ W, ELT w0.heap.size w0 X R m capR g cp last k (updT T r k m 0) W → ELT w0.heap.size w0 X R m capR g cp (T k k) (k + 1) (updT T r k m 0) ((W.setCell ⟨X, 1, none⟩ (.string Sp)).setCell ⟨X, 3, none⟩ (.int .i64 ((k : Int) + 1)))) := fun W h => by
    rw [← HSp.out]
    exact col_end X R m capR k g cp last _ _ w0 _ hs h _ (fun _ _ _ _ => rfl)
  clear hs he hpiv hT hl hl0 hred ht hSp hB
  by_cases hce : capR = k + 1
  · obtain rfl : m = k + 1 := by omega
    subst hce
    have HFin := Lib.hid (fun nn => HCol.out (w.drewN nn) ((HE.out.congr (fun a b ha hb => by unfold updT; rw [if_neg (by omega)])).below HB.out (below_drewN (Below.refl _ _) nn)))
    have f1 : w.frozen? ⟨X, 1, none⟩ = false := HE.out.1.frozen 1
    have f3 : w.frozen? ⟨X, 3, none⟩ = false := HE.out.1.frozen 3
    have x1 : w.cell? ⟨X, 1, none⟩ = some (zV last) := HE.out.1.cell 1
    clear HCol HRed hcap
    go_enter Tryz.func130, Tryz.ntmps130
    go_wp2_with fail
    refine wp_loop_rounds 1 ?_
    rw [rounds_succ]
    go_wp2_with fail
    go_quiet (first | (fail))
    go_wp2_with fail
    go_quiet (first | (fail))
    go_wp2_with fail
    refine wp_loop_rounds 1 ?_
    rw [rounds_succ]
    go_wp2
    refine bodyPost_end (results_none rfl _ _ _) rfl ?_
    exact ⟨⟨_, rfl⟩, HFin.out _, by simpa using HB.out⟩
  · have hcl : k + 1 < capR := by omega
    go_enter Tryz.func130, Tryz.ntmps130
    go_wp2_with fail
    refine wp_loop_rounds 1 ?_
    rw [rounds_succ]
    go_wp2_with fail
    go_quiet (first | (fail))
    go_wp2_with fail
    go_quiet (first | (fail))
    go_wp2_with fail
    clear x0 x3 rk pk t1 t2 t4
    go_loopw [110] (fun ii wr => ∃ a : Nat, a ≤ m - (k + 1) ∧ ii = .int .i64 (a : Int) ∧ Hid (ELT w0.heap.size w0 X R m capR g cp last k (updT T r k (k + 1 + a) 0) wr) ∧ Hid (w0.heap.size ≤ wr.heap.size)) (fun ii _ => m - (k + 1) - (intOf ii).toNat)
    case atStart => exact ⟨0, Nat.zero_le _, rfl, (HE.out.congr (fun x y _ _ => (updT_start T r k x y).symm)).below HB.out (below_drewN (below_drewN (Below.refl _ _) _) _), by show w0.heap.size ≤ _; simpa using HB.out⟩
    case round =>
      obtain ⟨a, ha, rfl, hel, hbo⟩ := hrel
      by_cases hlt : a < m - (k + 1)
      · have hi : k + 1 + a < m := by omega
        obtain ⟨S3, hS3⟩ : ∃ S, zV (T (k + 1 + a) k) = .string S := ⟨_, rfl⟩
        have rk := hel.out.2.1 (k + 1 + a) hi
        have ld := (hel.out.2.2.1 (k + 1 + a) k hi hk).1
        rw [updT_here T r k (Nat.zero_le _), hS3] at ld
        have HS3 := Lib.hid hS3
        have u1 : (k : Int) < (m : Int) := by omega
        clear hS3
        go_wp2_with fail
        clear rk ld
        obtain ⟨wo, rfl⟩ : ∃ wo : World, wo = wr := ⟨_, rfl⟩
        go_loopw [120] (fun jj wr => ∃ j : Nat, j ≤ m ∧ jj = .int .i64 (j : Int) ∧ Hid (ELT w0.heap.size w0 X R m capR g cp last k (updT T r k (k + 1 + a) j) wr) ∧ Hid (w0.heap.size ≤ wr.heap.size)) (fun jj _ => m - (intOf jj).toNat)
        case atStart => exact ⟨0, Nat.zero_le _, rfl, hel.out, hbo.out⟩
        case round =>
          obtain ⟨j, hjm, rfl, HEl, HBo⟩ := hrel
          by_cases hj : j < m
          · obtain ⟨S1, hS1⟩ : ∃ S, zV (T (k + 1 + a) j) = .string S := ⟨_, rfl⟩
            obtain ⟨S4, hS4⟩ : ∃ S, zV (T k j) = .string S := ⟨_, rfl⟩
            obtain ⟨S5, hS5⟩ : ∃ S, zV (r (k + 1 + a) j) = .string S := ⟨_, rfl⟩
            have HRd := Lib.hid ((HRed.out wr (k + 1 + a) j (by omega) hi hj HEl.out).out)
            rw [hS1, HSp.out, HS3.out, hS4, hS5] at HRd
            have p1 := (HEl.out.2.2.1 k k hk hk).1
            have p2 := (HEl.out.2.2.1 k j hk hj).1
            have p3 := (HEl.out.2.2.1 (k + 1 + a) j hi hj).1
            rw [updT_piv T r _ (by omega), HSp.out] at p1
            rw [updT_piv T r _ (by omega), hS4] at p2
            rw [updT_here T r j (Nat.le_refl _), hS1] at p3
            have HKp : Hid (∀ i2 j2 W, k < i2 → ELT w0.heap.size w0 X R m capR g cp last k (updT T r k i2 j2) W → W.cell? ⟨g k, k, none⟩ = some (.string Sp) ∧ W.cell? ⟨g k, j, none⟩ = some (.string S4)) := fun i2 j2 W h2 h => by
              have q1 := (h.2.2.1 k k hk hk).1
              have q2 := (h.2.2.1 k j hk hj).1
              rw [updT_piv T r _ h2, HSp.out] at q1
              rw [updT_piv T r _ h2, hS4] at q2
              exact ⟨q1, q2⟩
            have HS0 : Hid (wr.drew.cell? ⟨g k, k, none⟩ = some (.string Sp) ∧ wr.drew.cell? ⟨g k, j, none⟩ = some (.string S4)) := ⟨p1, p2⟩
            have HSt : Hid (∀ W, ELT w0.heap.size w0 X R m capR g cp last k (updT T r k (k + 1 + a) j) W → ELT w0.heap.size w0 X R m capR g cp last k (updT T r k (k + 1 + a) (j + 1)) (W.setCell ⟨g (k + 1 + a), j, none⟩ (.string S5))) := fun W h => by
              rw [← hS5]
              exact (h.set HS.out hi hj _).congr (fun x y _ _ => updT_step T r x y)
            have HS1 := Lib.hid hS1
            have u2 : (j : Int) < (m : Int) := by omega
            clear hS1 hS4 hS5 p1 p2
            go_wp2_with fail
            refine wp_region_noPanic ?_
            refine wp_region_held_drew (S := (fun W : World => W.cell? ⟨g k, k, none⟩ = some (.string Sp) ∧ W.cell? ⟨g k, j, none⟩ = some (.string S4))) (by kernel_rfl) HS0.out (fun hHeld => ?_)
            refine tkY (v := ?_) 0 (some 123) rfl (.inl ⟨by rfl, ?_⟩) ?_
            rotate_left
            · (intro w hSw; (try dsimp only at hSw); go_simp; try with_reducible rfl)
            try simp only [Act.put, tk1, tk2, tk3]
            refine tkY (v := ?_) 1 (some 124) rfl (.inl ⟨by rfl, ?_⟩) ?_
            rotate_left
            · (intro w hSw; (try dsimp only at hSw); go_simp; try with_reducible rfl)
            try simp only [Act.put, tk1, tk2, tk3]
            refine tkY (v := ?_) 2 (some 125) rfl (.inl ⟨by rfl, ?_⟩) ?_
            rotate_left
            · (intro w hSw; (try dsimp only at hSw); go_simp; try with_reducible rfl)
            try simp only [Act.put, tk1, tk2, tk3]
            refine tkY (v := ?_) 3 (some 126) rfl (.inl ⟨by rfl, ?_⟩) ?_
            rotate_left
            · (intro w hSw; (try dsimp only at hSw); go_simp; try with_reducible rfl)
            try simp only [Act.put, tk1, tk2, tk3]
            refine tkY (v := ?_) 4 (some 127) rfl (.inl ⟨by rfl, ?_⟩) ?_
            rotate_left
            · (intro w hSw; (try dsimp only at hSw); go_simp; try with_reducible rfl)
            try simp only [Act.put, tk1, tk2, tk3]
            refine tkY (v := ?_) 5 (some 128) rfl (.inl ⟨by rfl, ?_⟩) ?_
            rotate_left
            · (intro w hSw; (try dsimp only at hSw); go_simp; try with_reducible rfl)
            try simp only [Act.put, tk1, tk2, tk3]
            refine tkY (v := ?_) 7 (some 130) rfl (.inl ⟨by rfl, ?_⟩) ?_
            rotate_left
            · (intro w hSw; (try dsimp only at hSw); go_simp; try with_reducible rfl)
            try simp only [Act.put, tk1, tk2, tk3]
            refine tkY (v := ?_) 8 (some 131) rfl (.inl ⟨by rfl, ?_⟩) ?_
            rotate_left
            · (intro w hSw; (try dsimp only at hSw); go_simp; try with_reducible rfl)
            try simp only [Act.put, tk1, tk2, tk3]
            refine tkY (v := ?_) 9 (some 132) rfl (.inl ⟨by rfl, ?_⟩) ?_
            rotate_left
            · (intro w hSw; (try dsimp only at hSw); go_simp; try with_reducible rfl)
            try simp only [Act.put, tk1, tk2, tk3]
            refine tkY (v := ?_) 10 (some 133) rfl (.inl ⟨by rfl, ?_⟩) ?_
            rotate_left
            · (intro w hSw; (try dsimp only at hSw); go_simp; try with_reducible rfl)
            try simp only [Act.put, tk1, tk2, tk3]
            refine tkY (v := ?_) 11 (some 134) rfl (.inl ⟨by rfl, ?_⟩) ?_
            rotate_left
            · (intro w hSw; (try dsimp only at hSw); go_simp; try with_reducible rfl)
            try simp only [Act.put, tk1, tk2, tk3]
            refine tkY (v := ?_) 12 (some 135) rfl (.inl ⟨by rfl, ?_⟩) ?_
            rotate_left
            · (intro w hSw; (try dsimp only at hSw); go_simp; try with_reducible rfl)
            try simp only [Act.put, tk1, tk2, tk3]
            refine tkY (v := ?_) 13 (some 136) rfl (.inl ⟨by rfl, ?_⟩) ?_
            rotate_left
            · (intro w hSw; (try dsimp only at hSw); go_simp; try with_reducible rfl)
            try simp only [Act.put, tk1, tk2, tk3]
            refine tkY (v := ?_) 14 (some 137) rfl (.inl ⟨by rfl, ?_⟩) ?_
            rotate_left
            · (intro w hSw; (try dsimp only at hSw); go_simp; try with_reducible rfl)
            try simp only [Act.put, tk1, tk2, tk3]
            refine tkY (v := ?_) 15 (some 138) rfl (.inl ⟨by rfl, ?_⟩) ?_
            rotate_left
            · (intro w hSw; (try dsimp only at hSw); go_simp; try with_reducible rfl)
            try simp only [Act.put, tk1, tk2, tk3]
            refine wpAnyH_ready (rs := [6]) (by kernel_rfl) (by simp) ?_
            refine AllReadyH.cons (o := { dst := some 129, op := _, type := _, pos := _, after := _, guard := _ }) rfl (fun K hK => ?_) AllReadyH.nil
            go_simp
            clear hHeld
            refine hK.out _ _ (HS0.out) (fun hHeld => ?_)
            clear hK K
            try simp only [Act.put, tk1, tk2, tk3]
            refine wpAnyH_ready (rs := [16]) (by kernel_rfl) (by simp) ?_
            refine AllReadyH.cons (o := { dst := some 139, op := _, type := _, pos := _, after := _, guard := _ }) rfl (fun K hK => ?_) AllReadyH.nil
            go_simp
            (with_reducible refine HRd.out.mono ?_)
            rintro e w2 ⟨rfl, hb2⟩
            have hel := HEl.out.below HBo.out hb2
            obtain ⟨cw, fw⟩ := hel.2.2.1 (k + 1 + a) j hi hj
            rw [updT_here T r j (Nat.le_refl _), HS1.out] at cw
            have HSa := Lib.hid (HKp.out _ _ w2 (by omega) hel)
            have HE2 := Lib.hid (HSt.out w2 hel)
            have HBo2 := Lib.hid (Nat.le_trans HBo.out hb2.size)
            clear hb2 hel
            clear hHeld
            refine hK.out _ _ (HSa.out) (fun hHeld => ?_)
            clear hK K
            try simp only [Act.put, tk1, tk2, tk3]
            refine tkY (v := ?_) 17 (some 140) rfl (.inl ⟨by rfl, ?_⟩) ?_
            rotate_left
            · (intro w hSw; (try dsimp only at hSw); go_simp; try with_reducible rfl)
            try simp only [Act.put, tk1, tk2, tk3]
            refine wpAnyH_ready (rs := [18]) (by kernel_rfl) (by simp) ?_
            refine AllReadyH.cons (o := { dst := none, op := _, type := _, pos := _, after := _, guard := _ }) rfl (fun K hK => ?_) AllReadyH.nil
            go_simp
            clear hHeld
            refine hK.out _ _ (HKp.out _ _ _ (by omega) HE2.out) (fun hHeld => ?_)
            clear hK K
            try simp only [Act.put, tk1, tk2, tk3]
            refine wpAnyH_done (by kernel_rfl) ?_ _
            refine NoPanic.normal ?_
            go_wp2
            go_roundw
            case rel => exact ⟨j + 1, by omega, by go_num, HE2.out, by show w0.heap.size ≤ _; simpa using HBo2.out⟩
            case measure => simp [intOf]; omega
          · obtain rfl : j = m := by omega
            have HEn : Hid (ELT w0.heap.size w0 X R j capR g cp last k (updT T r k (k + 1 + (a + 1)) 0) wr) := HEl.out.congr (fun x y _ hy => updT_row T r (by omega) x y hy)
            go_wp2
            go_roundw
            case rel => exact ⟨a + 1, by omega, by go_num, HEn.out, HBo.out⟩
            case measure => simp [intOf]; omega
      · obtain rfl : a = m - (k + 1) := by omega
        have he2 := hel.out
        rw [show k + 1 + (m - (k + 1)) = m by omega] at he2
        have HFin := Lib.hid (HCol.out wr he2)
        have x1 : wr.cell? ⟨X, 1, none⟩ = some (zV last) := he2.1.cell 1
        have x3 : wr.cell? ⟨X, 3, none⟩ = some (.int .i64 (k : Int)) := he2.1.cell 3
        have f1 := he2.1.frozen 1
        have f3 := he2.1.frozen 3
        have pk := (he2.2.2.1 k k hk hk).1
        rw [show updT T r k m 0 k k = T k k from by unfold updT; rw [if_neg (by omega)], HSp.out] at pk
        have u1 : (k : Int) < (m : Int) := by omega
        clear he2
        go_wp2
        refine bodyPost_end (results_none rfl _ _ _) rfl ?_
        exact ⟨⟨_, rfl⟩, HFin.out, by simpa using hbo.out⟩
end Go.Proofs.YtjfggodnfoknfaaGreatDoor

