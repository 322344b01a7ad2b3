/- Contract of graph.Check.
   Words for blocks that are known whole.
   Contracts of package connect: grown, root, join.
   Contracts of package connect: grown, joined.
   Contract of connect's parts: how many there are. -/
import Derived.Test.YtjfggodnfoknfaaGreatDoorM02
import Derived.Deep.MidRow
import Derived.Deep.RegionLaw
set_option maxRecDepth 100000
set_option maxHeartbeats 16000000
namespace Go.Proofs.YtjfggodnfoknfaaGreatDoor
open Go.RowKit

theorem bcell {W w1 : World} (hb : Below W.heap.size W w1) : (∀ b o, b < W.heap.size → w1.cell? ⟨b, o, none⟩ = W.cell? ⟨b, o, none⟩) ∧ (∀ b o, b < W.heap.size → w1.frozen? ⟨b, o, none⟩ = W.frozen? ⟨b, o, none⟩) :=
  ⟨fun b o h => hb.cell (p := ⟨b, o, none⟩) h, fun b o h => hb.frozen (p := ⟨b, o, none⟩) h⟩
theorem okE_lt {n la lb a b m : Int} (h1 : vtxB n a = true) (h2 : vtxB n b = true) (h3 : ¬ m < 1) (h4 : ¬ 50 < m) : okE n (la, lb) (a, b, m) = if b < a ∨ 0 ≤ cmpP la lb a b then 9 else 0 := by
  rw [vtxB_iff] at h1 h2
  unfold okE
  simp only
  rw [if_neg (by omega)]
  have e : (b < a ∨ a < la ∨ a = la ∧ b ≤ lb) ↔ (b < a ∨ 0 ≤ cmpP la lb a b) := by
    have : (a < la ∨ a = la ∧ b ≤ lb) ↔ 0 ≤ cmpP la lb a b := by
      unfold cmpP orI cmpI
      constructor
      · intro h
        repeat' split
        all_goals omega
      · intro h
        revert h
        repeat' split
        all_goals omega
    rw [this]
  by_cases c : b < a ∨ 0 ≤ cmpP la lb a b
  · rw [if_pos (e.2 c), if_pos c]
  · rw [if_neg fun h => c (e.1 h), if_neg c]
theorem okE_bad {n la lb a b m : Int} (h : vtxB n a = false ∨ vtxB n b = false ∨ m < 1 ∨ 50 < m) : okE n (la, lb) (a, b, m) = 2 := by
  unfold okE
  simp only
  rw [if_pos]
  simp only [vtxB, Bool.and_eq_false_iff, decide_eq_false_iff_not] at h
  omega

theorem gCheck_any (g : Value) (n : Int) (es : List Tri) (w : World) (hg : GV w g n es) :
    Calls Tryz.prog 104 #[g] w fun e w' => e = .returned (.int .i64 (gcheckE n es)) ∧ Below w.heap.size w w' := by
  obtain ⟨A, c, rfl, hlc, hc, hcell⟩ := hg.open_
  have HC := Lib.hid hcell
  clear hcell hg
  by_cases h1 : n < 1
  · go_enter Tryz.func104, Tryz.ntmps104
    go_wp2
    go_ret
    exact ⟨ret_i (by simp [gcheckE, h1]), below_alloc w _⟩
  by_cases h2 : 12 < n
  · go_enter Tryz.func104, Tryz.ntmps104
    go_wp2
    go_ret
    exact ⟨ret_i (by simp [gcheckE, h2]), below_alloc w _⟩
  have HE := Lib.hid (show gcheckE n es = gcheckL n (-1, -1) es by unfold gcheckE; rw [if_neg (by omega)])
  go_enter Tryz.func104, Tryz.ntmps104
  go_wp2
  go_loopw [19] (fun i wr => ∃ (k : Nat) (la lb : Int), k ≤ es.length ∧ i = .int .i64 k ∧ Hid (gcheckL n (la, lb) (es.drop k) = gcheckL n (-1, -1) es) ∧ w.heap.size + 1 < wr.heap.size ∧
    wr.cell? ⟨w.heap.size, 0, none⟩ = some (.int .i64 n) ∧ wr.cell? ⟨w.heap.size + 1, 0, none⟩ = some (.int .i64 la) ∧ wr.cell? ⟨w.heap.size + 1, 1, none⟩ = some (.int .i64 lb) ∧
    wr.frozen? ⟨w.heap.size + 1, 0, none⟩ = false ∧ wr.frozen? ⟨w.heap.size + 1, 1, none⟩ = false ∧ Hid (Below w.heap.size w wr)) (fun i _ => es.length - (intOf i).toNat)
  case atStart =>
    exact ⟨0, -1, -1, Nat.zero_le _, rfl, rfl, by simp, by go_simp, by go_simp, by go_simp, by go_simp, by go_simp, (below_alloc w _).alloc (by simp) _⟩
  case round =>
    obtain ⟨k, la, lb, hk, rfl, hr, hsz, hn, hla, hlb, hf1, hf2, hbel⟩ := hrel
    by_cases hlt : k < es.length
    · obtain ⟨ad, a, b, m, rfl, hab, ht, c1, c2, c3⟩ := HC.out k hlt
      obtain ⟨d1, d2, d3⟩ := tri_cells hbel.out hab c1 c2 c3
      have HD := Lib.hid (drop_at ht)
      clear c1 c2 c3 HC
      have h0 : w.heap.size < wr.heap.size := by omega
      have FIN : Hid (∀ x, okE n (la, lb) (a, b, m) = x → x ≠ 0 → x = gcheckE n es) := fun x hx hx0 => by
        rw [HE.out, ← hr.out, HD.out]; unfold gcheckL; rw [hx, if_pos hx0]
      have GO : Hid (okE n (la, lb) (a, b, m) = 0 → gcheckL n (a, b) (es.drop (k + 1)) = gcheckL n (-1, -1) es) := fun hx => by
        have := hr.out; rw [HD.out] at this; rw [← this]; conv => rhs; unfold gcheckL
        rw [hx]; simp
      clear HD ht
      cases hA : vtxB n a
      · have PR : Hid (okE n (la, lb) (a, b, m) = 2) := okE_bad (.inl hA)
        go_wp2_with (go_at_call 141; refine (vertex_any _ _ _).mono ?_; rintro e w' ⟨rfl, rfl⟩)
        go_ret
        exact ⟨ret_i (FIN.out 2 PR.out (by omega)), (hbel.out.alloc (by omega) _).alloc (by simp; omega) _⟩
      cases hB : vtxB n b
      · have PR : Hid (okE n (la, lb) (a, b, m) = 2) := okE_bad (.inr (.inl hB))
        go_wp2_with (go_at_call 141; refine (vertex_any _ _ _).mono ?_; rintro e w' ⟨rfl, rfl⟩)
        go_ret
        exact ⟨ret_i (FIN.out 2 PR.out (by omega)), (hbel.out.alloc (by omega) _).alloc (by simp; omega) _⟩
      by_cases hm1 : m < 1
      · have PR : Hid (okE n (la, lb) (a, b, m) = 2) := okE_bad (.inr (.inr (.inl hm1)))
        go_wp2_with (go_at_call 141; refine (vertex_any _ _ _).mono ?_; rintro e w' ⟨rfl, rfl⟩)
        go_ret
        exact ⟨ret_i (FIN.out 2 PR.out (by omega)), (hbel.out.alloc (by omega) _).alloc (by simp; omega) _⟩
      by_cases hm2 : 50 < m
      · have PR : Hid (okE n (la, lb) (a, b, m) = 2) := okE_bad (.inr (.inr (.inr hm2)))
        go_wp2_with (go_at_call 141; refine (vertex_any _ _ _).mono ?_; rintro e w' ⟨rfl, rfl⟩)
        go_ret
        exact ⟨ret_i (FIN.out 2 PR.out (by omega)), (hbel.out.alloc (by omega) _).alloc (by simp; omega) _⟩
      have OK := Lib.hid (okE_lt (la := la) (lb := lb) hA hB hm1 hm2)
      by_cases hba : b < a
      · have PR : Hid (okE n (la, lb) (a, b, m) = 9) := by show _ = _; rw [OK.out, if_pos (.inl hba)]
        go_wp2_with (go_at_call 141; refine (vertex_any _ _ _).mono ?_; rintro e w' ⟨rfl, rfl⟩)
        go_ret
        exact ⟨ret_i (FIN.out 9 PR.out (by omega)), (hbel.out.alloc (by omega) _).alloc (by simp; omega) _⟩
      have hW : Hid (Below w.heap.size w ((wr.alloc (.cells #[.int .i64 a, .int .i64 b, .int .i64 m] 54)).alloc (.cells #[.int .i64 a, .int .i64 b] 191))) := (hbel.out.alloc (by omega) _).alloc (by simp; omega) _
      go_wp2_with (first | (go_at_call 141; refine (vertex_any _ _ _).mono ?_; rintro e w' ⟨rfl, rfl⟩) | (go_at_call 142; refine (compare_any la lb a b _).mono ?_; rintro e w' ⟨rfl, hb'⟩; have HB := Lib.hid hb'; obtain ⟨hcc, hff⟩ := bcell hb'; have hz := hb'.size; simp only [World.size_alloc] at hz; clear hb'))
      · have hx : b < a ∨ 0 ≤ cmpP la lb a b := by assumption
        go_ret
        exact ⟨ret_i (FIN.out 9 (by rw [OK.out, if_pos hx]) (by omega)), hW.out.trans (HB.out.mono (by simp; omega))⟩
      · have hx : ¬ (b < a ∨ 0 ≤ cmpP la lb a b) := by omega
        go_roundw
        case rel =>
          have q : ∀ x o, x < wr.heap.size → w'.cell? ⟨x, o, none⟩ = wr.cell? ⟨x, o, none⟩ ∧ w'.frozen? ⟨x, o, none⟩ = wr.frozen? ⟨x, o, none⟩ := fun x o hx =>
            ⟨(hcc x o (by simp; omega)).trans ((World.cell?_alloc_lt _ _ _ (by simp; omega)).trans (World.cell?_alloc_lt _ _ _ hx)), (HB.out.frozen (p := ⟨x, o, none⟩) (by simp; omega)).trans ((((below_alloc wr _).alloc (by simp) _).frozen (p := ⟨x, o, none⟩) hx))⟩
          have q1 := (q w.heap.size 0 h0).1.trans hn
          have q2 := (q (w.heap.size + 1) 0 hsz).1.trans hla
          have q3 := (q (w.heap.size + 1) 1 hsz).1.trans hlb
          refine ⟨k + 1, a, b, by omega, by go_num, GO.out (by rw [OK.out, if_neg hx]), by simp; omega, ?_, ?_, ?_, ?_, ?_, ?_⟩
          · rw [World.cell?_setCell_other _ _ _ _ (by simp), World.cell?_setCell_other _ _ _ _ (by simp), q1]
          · rw [World.cell?_setCell_other _ _ _ _ (by simp), World.cell?_setCell_same _ _ _ q2]
          · exact World.cell?_setCell_same _ _ _ ((World.cell?_setCell_other _ _ _ _ (by simp)).trans q3)
          · rw [World.frozen?_setCell, World.frozen?_setCell, (q (w.heap.size + 1) 0 hsz).2, hf1]
          · rw [World.frozen?_setCell, World.frozen?_setCell, (q (w.heap.size + 1) 1 hsz).2, hf2]
          · exact ((hW.out.trans (HB.out.mono (by simp; omega))).setCell (p := ⟨w.heap.size + 1, 0, none⟩) (by simp) _).setCell (p := ⟨w.heap.size + 1, 1, none⟩) (by simp) _
        case measure => simp [intOf]; omega
    · go_wp2
      go_ret
      exact ⟨ret_i (by rw [HE.out, ← hr.out, List.drop_of_length_le (by omega)]; rfl), hbel.out⟩
end Go.Proofs.YtjfggodnfoknfaaGreatDoor

namespace Go.Proofs.YtjfggodnfoknfaaGreatDoor
open Go.RowKit

/-- Block b is known whole. -/
def BL (w : World) (b : Nat) (T : TypeId) (us : List Value) : Prop := w.heap[b]? = some (.cells us.toArray T (0, 0))
theorem BL.lt {w : World} {b : Nat} {T : TypeId} {us : List Value} (h : BL w b T us) : b < w.heap.size := lt_of_block h
theorem BL.cell {w : World} {b : Nat} {T : TypeId} {us : List Value} (h : BL w b T us) (k : Nat) : w.cell? ⟨b, k, none⟩ = us[k]? := by
  rw [cell_of_row w b k _ T (0, 0) h]; simp
theorem BL.frozen {w : World} {b : Nat} {T : TypeId} {us : List Value} (h : BL w b T us) (k : Nat) : w.frozen? ⟨b, k, none⟩ = false := frozen_of_row w b k _ T h
theorem BL.below {w w' : World} {b B : Nat} {T : TypeId} {us : List Value} (h : BL w b T us) (hb : Below B w w') (hl : b < B) : BL w' b T us := (hb.block b hl).trans h
theorem BL.bel {w w' : World} {b : Nat} {T : TypeId} {us : List Value} (h : BL w b T us) (hb : Below w.heap.size w w') : BL w' b T us := h.below hb h.lt
theorem BL.alloc {w : World} {b : Nat} {T : TypeId} {us : List Value} (h : BL w b T us) (o : Obj) : BL (w.alloc o) b T us := (Below.heap_alloc w o b h.lt).trans h
theorem BL.drew {w : World} {b : Nat} {T : TypeId} {us : List Value} (h : BL w b T us) : BL w.drew b T us := h
theorem BL.new' (w : World) (us : Array Value) (T : TypeId) : BL (w.alloc (.cells us T)) w.heap.size T us.toList := heap_alloc_new w _
theorem BL.set {w : World} {b : Nat} {T : TypeId} {us : List Value} (h : BL w b T us) (k : Nat) (v : Value) : BL (w.setCell ⟨b, k, none⟩ v) b T (us.set k v) := by
  have := heap_setCell_same w b k _ T v h
  unfold BL
  simpa using this
theorem BL.set_other {w : World} {b : Nat} {T : TypeId} {us : List Value} (h : BL w b T us) {a : Addr} (ha : b ≠ a.block) (v : Value) : BL (w.setCell a v) b T us := (heap_setCell_other w a b v ha).trans h
theorem BL.grown {w w' : World} {b : Nat} {T : TypeId} {us : List Value} (h : BL w b T us) {row : Option Nat} (hg : w.grownBy w' row) (hr : row ≠ some b) : BL w' b T us := by
  have := hg.block b h.lt (fun e => hr e.symm)
  exact this.trans h
def nvL (f : List Nat) : List Value := f.map fun x : Nat => Value.int .i64 (x : Int)
theorem nvL_get {f : List Nat} {k : Nat} (hk : k < f.length) : (nvL f)[k]? = some (.int .i64 (f.getD k k : Nat)) := by
  simp [nvL, List.getElem?_eq_getElem hk]
theorem nvL_set (f : List Nat) (k x : Nat) : (nvL f).set k (.int .i64 (x : Int)) = nvL (f.set k x) := by simp [nvL, List.map_set]
end Go.Proofs.YtjfggodnfoknfaaGreatDoor

namespace Go.Proofs.YtjfggodnfoknfaaGreatDoor
open Go.RowKit

theorem nvL_at {f : List Nat} (h : Fo f) {k : Nat} (hk : k < 12) : (nvL f)[k]? = some (.int .i64 (f.getD k k : Nat)) := nvL_get (by rw [h.1]; exact hk)
theorem root_any (f : List Nat) (b v : Nat) (T : TypeId) (w : World) (hf : Fo f) (hv : v < 12) (hb : BL w b T (nvL f)) :
    Calls Tryz.prog 147 #[.pointer (some ⟨b, 0, none⟩), .int .i64 (v : Int)] w fun e w' => e = .returned (.int .i64 (rootF f v : Nat)) ∧ w = w' := by
  have HB := Lib.hid hb
  have HF := Lib.hid hf
  clear hb hf
  go_enter Tryz.func147, Tryz.ntmps147
  go_wp2
  go_loop [1] (fun i => ∃ k : Nat, k < 12 ∧ i = .int .i64 k ∧ Hid (rootF f k = rootF f v)) (fun i => (intOf i).toNat)
  case atStart => exact ⟨v, hv, rfl, rfl⟩
  case round =>
    obtain ⟨k, hk, rfl, hr⟩ := hrel
    have hle := HF.out.2 k hk
    have hs := Lib.hid (root_step HF.out hk)
    have hx : Hid (¬ f.getD k k < k → rootF f k = k) := fun h => by rw [root_unf, if_neg h]
    have hcl := (HB.out.cell k).trans (nvL_at HF.out hk)
    generalize f.getD k k = x at *
    by_cases hlt : x < k
    · have hne : ((x : Int) != k) = true := by simp; omega
      go_wp2
      go_round
      case rel => exact ⟨x, by omega, rfl, hs.out.trans hr.out⟩
      case measure => simp [intOf]; omega
    · have hxk : x = k := by omega
      have hne : ((x : Int) != k) = false := by simp; omega
      have HX := Lib.hid hxk
      clear hxk
      go_wp2
      go_ret
      exact ⟨ret_i (by rw [← hr.out, hx.out hlt]), rfl⟩

theorem join_any (f : List Nat) (b x y : Nat) (T : TypeId) (w : World) (hf : Fo f) (hx : x < 12) (hy : y < 12) (hb : BL w b T (nvL f)) :
    Calls Tryz.prog 146 #[.pointer (some ⟨b, 0, none⟩), .int .i64 (x : Int), .int .i64 (y : Int)] w fun e w' => (∃ v, e = .returned v) ∧ BL w' b T (nvL (joinF f x y)) ∧ Below b w w' := by
  have HB := Lib.hid hb
  have HF := Lib.hid hf
  have h1 := root_le f x
  have h2 := root_le f y
  obtain ⟨r, hr⟩ : ∃ r, r = rootF f x := ⟨_, rfl⟩
  obtain ⟨s, hs⟩ : ∃ s, s = rootF f y := ⟨_, rfl⟩
  have HX := Lib.hid (root_any f b x T w hf hx hb)
  have HY := Lib.hid (root_any f b y T w hf hy hb)
  rw [← hr] at h1 HX
  rw [← hs] at h2 HY
  have HR := Lib.hid hr
  have HS := Lib.hid hs
  clear hb hf hr hs
  rcases Nat.lt_or_ge r s with hle | hle
  · have hc := (HB.out.cell s).trans (nvL_at HF.out (by omega))
    have hfr := HB.out.frozen s
    have hset : Hid (BL (w.setCell ⟨b, s, none⟩ (.int .i64 r)) b T (nvL (joinF f x y))) := by
      have := HB.out.set s (.int .i64 (r : Nat))
      rw [nvL_set] at this
      unfold joinF; rw [← HR.out, ← HS.out, Nat.max_eq_right (by omega), Nat.min_eq_left (by omega)]; exact this
    go_enter Tryz.func146, Tryz.ntmps146
    go_wp2_with fail
    refine HX.out.mono ?_
    rintro e w' ⟨rfl, rfl⟩
    go_wp2_with fail
    refine HY.out.mono ?_
    rintro e w' ⟨rfl, rfl⟩
    go_wp2
    go_end0
    exact ⟨⟨_, rfl⟩, hset.out, (Below.refl _ _).setCell (p := ⟨b, s, none⟩) (Nat.le_refl _) _⟩
  rcases Nat.lt_or_ge s r with hlt | hge
  · have hc := (HB.out.cell r).trans (nvL_at HF.out (by omega))
    have hfr := HB.out.frozen r
    have hset : Hid (BL (w.setCell ⟨b, r, none⟩ (.int .i64 s)) b T (nvL (joinF f x y))) := by
      have := HB.out.set r (.int .i64 (s : Nat))
      rw [nvL_set] at this
      unfold joinF; rw [← HR.out, ← HS.out, Nat.max_eq_left (by omega), Nat.min_eq_right (by omega)]; exact this
    go_enter Tryz.func146, Tryz.ntmps146
    go_wp2_with fail
    refine HX.out.mono ?_
    rintro e w' ⟨rfl, rfl⟩
    go_wp2_with fail
    refine HY.out.mono ?_
    rintro e w' ⟨rfl, rfl⟩
    go_wp2
    go_end0
    exact ⟨⟨_, rfl⟩, hset.out, (Below.refl _ _).setCell (p := ⟨b, r, none⟩) (Nat.le_refl _) _⟩
  · obtain rfl : s = r := by omega
    have hc := (HB.out.cell s).trans (nvL_at HF.out (by omega))
    have hfr := HB.out.frozen s
    have hset : Hid (BL (w.setCell ⟨b, s, none⟩ (.int .i64 s)) b T (nvL (joinF f x y))) := by
      have := HB.out.set s (.int .i64 (s : Nat))
      rw [nvL_set] at this
      unfold joinF; rw [← HR.out, ← HS.out, Nat.max_eq_left (by omega), Nat.min_eq_right (by omega)]; exact this
    go_enter Tryz.func146, Tryz.ntmps146
    go_wp2_with fail
    refine HX.out.mono ?_
    rintro e w' ⟨rfl, rfl⟩
    go_wp2_with fail
    refine HY.out.mono ?_
    rintro e w' ⟨rfl, rfl⟩
    go_wp2
    go_end0
    exact ⟨⟨_, rfl⟩, hset.out, (Below.refl _ _).setCell (p := ⟨b, s, none⟩) (Nat.le_refl _) _⟩
end Go.Proofs.YtjfggodnfoknfaaGreatDoor

namespace Go.Proofs.YtjfggodnfoknfaaGreatDoor
open Go.RowKit

theorem BL.setCells {w : World} {b : Nat} {T : TypeId} {us : List Value} (h : BL w b T us) (vs : List Value) (o : Nat) (hl : o + vs.length = us.length) : BL (w.setCells b o vs) b T (us.take o ++ vs) := by
  induction vs generalizing w us o with
  | nil => simp at hl; subst hl; simpa [World.setCells] using h
  | cons v r ih =>
    simp only [List.length_cons] at hl
    have := ih (h.set o v) (o + 1) (by simp; omega)
    simp only [World.setCells]
    have e : (us.set o v).take (o + 1) = us.take o ++ [v] := by
      rw [List.take_succ_eq_append_getElem (by simp; omega), List.take_set_of_le (Nat.le_refl _)]
      simp
    rw [e] at this
    simpa using this
theorem below_setCells {B b : Nat} {w0 w : World} (h : Below B w0 w) (hB : B ≤ b) (vs : List Value) (o : Nat) : Below B w0 (w.setCells b o vs) := by
  induction vs generalizing w o with
  | nil => exact h
  | cons v r ih => exact ih (h.setCell (p := ⟨b, o, none⟩) hB v) (o + 1)
theorem BL.there {w : World} {b : Nat} {T : TypeId} {us : List Value} (h : BL w b T us) : w.there b 0 us.length := fun j hj =>
  ⟨by rw [Nat.zero_add, h.cell, List.getElem?_eq_getElem hj]; rfl, h.frozen _⟩
theorem BL.setCells_other {w : World} {b c : Nat} {T : TypeId} {us : List Value} (h : BL w b T us) (hne : b ≠ c) (vs : List Value) (o : Nat) : BL (w.setCells c o vs) b T us := by
  induction vs generalizing w o with
  | nil => exact h
  | cons v r ih => exact ih (h.set_other (a := ⟨c, o, none⟩) hne v) (o + 1)
theorem nvL_one (f : List Nat) : ∀ v ∈ nvL f, v.oneCell' = true := by
  intro v hv; obtain ⟨z, _, rfl⟩ := List.mem_map.1 hv; rfl
theorem fo_info : (Tryz.prog.info? 150).map (·.size) = some 12 := by kernel_rfl
theorem fo_size {f : List Nat} (h : f.length = 12) : (Tryz.prog.info? 150).map (·.size) = some (nvL f).toArray.size := by
  rw [fo_info]; simp [nvL, h]
def partG (k : Nat) : List Nat := List.range k ++ List.replicate (12 - k) 0
theorem partG_set : ∀ k, k < 12 → (partG k).set k k = partG (k + 1) := by decide
theorem grown_any (w : World) : Calls Tryz.prog 145 #[] w fun e w' => e = .returned (.agg (nvL grownF).toArray) ∧ Below w.heap.size w w' := by
  go_enter Tryz.func145, Tryz.ntmps145
  go_wp2
  go_loopw [3] (fun i wr => ∃ k : Nat, k ≤ 12 ∧ i = .int .i64 k ∧ Hid (BL wr w.heap.size 150 (nvL (partG 0))) ∧ Hid (BL wr (w.heap.size + 1) 150 (nvL (partG k))) ∧ Hid (Below w.heap.size w wr)) (fun i _ => 12 - (intOf i).toNat)
  case atStart =>
    refine ⟨0, by omega, rfl, ?_, ?_, (below_alloc w _).alloc (by simp) _⟩
    · exact (BL.new' w _ _).alloc _
    · have := BL.new' (w.alloc (.cells (nvL (partG 0)).toArray 150)) (nvL (partG 0)).toArray 150
      simp only [World.size_alloc] at this
      exact this
  case round =>
    obtain ⟨k, hk, rfl, h0, h1, hb⟩ := hrel
    by_cases hlt : k < 12
    · have hl : (partG k).length = 12 := by simp [partG]; omega
      have hc := (h1.out.cell k).trans (nvL_get (by rw [hl]; exact hlt))
      have hf := h1.out.frozen k
      have hs := Lib.hid (h1.out.set k (.int .i64 (k : Nat)))
      rw [nvL_set, partG_set k hlt] at hs
      go_wp2
      go_roundw
      case rel => exact ⟨k + 1, by omega, by go_num, h0.out.set_other (by simp) _, hs.out, hb.out.setCell (p := ⟨w.heap.size + 1, k, none⟩) (by simp) _⟩
      case measure => simp [intOf]; omega
    · obtain rfl : k = 12 := by omega
      have hg : partG 12 = grownF := by decide
      rw [hg] at h1
      have hth := Lib.hid h0.out.there
      have hz := Lib.hid ((h0.out.setCells (nvL grownF) 0 (by simp [nvL, grownF, partG])))
      have hb2 := Lib.hid (below_setCells (b := w.heap.size) hb.out (Nat.le_refl _) (nvL grownF) 0)
      clear h0 hg
      go_wp2_with (first
        | (refine wpList_load_row rfl 150 _ rfl (w.heap.size + 1) rfl 150 _ (0, 0) _ h1.out Tryz.underlying150 rfl (fo_size (by decide)) ?_)
        | (refine wpList_store_mid rfl 150 _ _ rfl w.heap.size 0 (nvL grownF).toArray rfl rfl hth.out (fo_size (by decide)) (all_oneCell_toArray (nvL_one _)) ?_))
      refine bodyPost_ret (results_cell_row rfl _ _ w.heap.size 150 (nvL grownF).toArray (0, 0) _ rfl hz.out Tryz.underlying150 rfl (fo_size (by decide))) rfl ⟨rfl, hb2.out⟩

theorem joinAll_snoc (f : List Nat) (es : List Tri) (t : Tri) : joinAll f (es ++ [t]) = joinF (joinAll f es) t.1.toNat t.2.1.toNat := by simp [joinAll]
theorem joinAll_fo {f : List Nat} (hf : Fo f) {es : List Tri} (he : Ends 12 es) : Fo (joinAll f es) := by
  induction es generalizing f with
  | nil => exact hf
  | cons t r ih =>
    have := he t (List.mem_cons_self ..)
    exact ih (joinF_fo hf (by omega) (by omega)) he.tail
theorem ends_take {n : Nat} {es : List Tri} (h : Ends n es) (k : Nat) : Ends n (es.take k) := fun t ht => h t (List.mem_of_mem_take ht)
theorem ends_mono {n m : Nat} {es : List Tri} (h : Ends n es) (hm : n ≤ m) : Ends m es := fun t ht => by have := h t ht; omega
theorem take_tri {es : List Tri} {k : Nat} {t : Tri} (h : Hid (es[k]? = some t)) : es.take (k + 1) = es.take k ++ [t] := by
  obtain ⟨hk, rfl⟩ := List.getElem?_eq_some_iff.1 h.out
  exact List.take_succ_eq_append_getElem hk
theorem joined_any (g : Value) (n : Int) (es : List Tri) (w : World) (hg : GV w g n es) (he : Ends 12 es) :
    Calls Tryz.prog 111 #[g] w fun e w' => e = .returned (.agg (nvL (joinAll grownF es)).toArray) ∧ Below w.heap.size w w' := by
  obtain ⟨A, c, rfl, hlc, hc, hcell⟩ := hg.open_
  have HC := Lib.hid hcell
  have HEn := Lib.hid he
  clear hcell hg he
  go_enter Tryz.func111, Tryz.ntmps111
  go_wp2_with fail
  refine (grown_any _).mono ?_
  rintro e w1 ⟨rfl, hb⟩
  have hz := hb.size
  simp only [World.size_alloc] at hz
  have hB1 : Hid (Below w.heap.size w w1) := ((below_alloc w _).alloc (by simp) _).trans (hb.mono (by simp; omega))
  have hcell1 : w1.cell? ⟨w.heap.size, 1, none⟩ = some (.slice A es.length c) := (hb.cell (p := ⟨w.heap.size, 1, none⟩) (by simp; omega)).trans ((World.cell?_alloc_lt _ _ _ (by simp)).trans (cell_lit rfl))
  have hres : Hid (BL w1 (w.heap.size + 1) 150 (nvL (partG 0))) := by
    have := BL.new' (w.alloc (.cells #[.int .i64 n, .slice A es.length c] 24)) (nvL (partG 0)).toArray 150
    simp only [World.size_alloc] at this
    exact this.below hb (by simp)
  have hn := BL.new' w1 #[Value.int IntKind.i64 0, Value.int IntKind.i64 0, Value.int IntKind.i64 0, Value.int IntKind.i64 0, Value.int IntKind.i64 0, Value.int IntKind.i64 0, Value.int IntKind.i64 0, Value.int IntKind.i64 0, Value.int IntKind.i64 0, Value.int IntKind.i64 0, Value.int IntKind.i64 0, Value.int IntKind.i64 0] 150
  have hth := Lib.hid hn.there
  have hfo : Hid (BL ((w1.alloc (.cells #[Value.int IntKind.i64 0, Value.int IntKind.i64 0, Value.int IntKind.i64 0, Value.int IntKind.i64 0, Value.int IntKind.i64 0, Value.int IntKind.i64 0, Value.int IntKind.i64 0, Value.int IntKind.i64 0, Value.int IntKind.i64 0, Value.int IntKind.i64 0, Value.int IntKind.i64 0, Value.int IntKind.i64 0] 150)).setCells w1.heap.size 0 (nvL grownF)) w1.heap.size 150 (nvL grownF)) := by
    have := hn.setCells (nvL grownF) 0 (by decide)
    show BL _ _ _ _
    simpa using this
  have hB2 : Hid (Below w.heap.size w ((w1.alloc (.cells #[Value.int IntKind.i64 0, Value.int IntKind.i64 0, Value.int IntKind.i64 0, Value.int IntKind.i64 0, Value.int IntKind.i64 0, Value.int IntKind.i64 0, Value.int IntKind.i64 0, Value.int IntKind.i64 0, Value.int IntKind.i64 0, Value.int IntKind.i64 0, Value.int IntKind.i64 0, Value.int IntKind.i64 0] 150)).setCells w1.heap.size 0 (nvL grownF))) := below_setCells (hB1.out.alloc (by omega) _) (by omega) _ _
  have hres2 : Hid (BL ((w1.alloc (.cells #[Value.int IntKind.i64 0, Value.int IntKind.i64 0, Value.int IntKind.i64 0, Value.int IntKind.i64 0, Value.int IntKind.i64 0, Value.int IntKind.i64 0, Value.int IntKind.i64 0, Value.int IntKind.i64 0, Value.int IntKind.i64 0, Value.int IntKind.i64 0, Value.int IntKind.i64 0, Value.int IntKind.i64 0] 150)).setCells w1.heap.size 0 (nvL grownF)) (w.heap.size + 1) 150 (nvL (partG 0))) := (hres.out.alloc _).setCells_other (by omega) _ _
  have hcell2 : ((w1.alloc (.cells #[Value.int IntKind.i64 0, Value.int IntKind.i64 0, Value.int IntKind.i64 0, Value.int IntKind.i64 0, Value.int IntKind.i64 0, Value.int IntKind.i64 0, Value.int IntKind.i64 0, Value.int IntKind.i64 0, Value.int IntKind.i64 0, Value.int IntKind.i64 0, Value.int IntKind.i64 0, Value.int IntKind.i64 0] 150)).setCells w1.heap.size 0 (nvL grownF)).cell? ⟨w.heap.size, 1, none⟩ = some (.slice A es.length c) := by
    rw [World.cell?_setCells_out _ _ _ _ _ (fun h => by simp at h; omega)]
    exact (World.cell?_alloc_lt _ _ _ (by simp; omega)).trans hcell1
  clear hb hcell1 hn hres hB1
  go_wp2_with (refine wpList_store_mid rfl 150 _ _ rfl w1.heap.size 0 (nvL grownF).toArray rfl rfl hth.out (fo_size (by decide)) (all_oneCell_toArray (nvL_one _)) ?_; generalize (w1.alloc (.cells #[Value.int IntKind.i64 0, Value.int IntKind.i64 0, Value.int IntKind.i64 0, Value.int IntKind.i64 0, Value.int IntKind.i64 0, Value.int IntKind.i64 0, Value.int IntKind.i64 0, Value.int IntKind.i64 0, Value.int IntKind.i64 0, Value.int IntKind.i64 0, Value.int IntKind.i64 0, Value.int IntKind.i64 0] 150)).setCells w1.heap.size 0 (nvL grownF).toArray.toList = W at *)
  have HCel := Lib.hid hcell2
  clear hcell2
  have hw1 : w.heap.size + 2 ≤ w1.heap.size := by omega
  go_loopw [10] (fun i wr => ∃ k : Nat, k ≤ es.length ∧ i = .int .i64 k ∧ Hid (BL wr w1.heap.size 150 (nvL (joinAll grownF (es.take k)))) ∧ Hid (BL wr (w.heap.size + 1) 150 (nvL (partG 0))) ∧ Hid (Below w.heap.size w wr)) (fun i _ => es.length - (intOf i).toNat)
  case atStart => exact ⟨0, Nat.zero_le _, rfl, hfo, hres2, hB2⟩
  case round =>
    obtain ⟨k, hk, rfl, hbl, hre, hbel⟩ := hrel
    have hlt1 := hbl.out.lt
    by_cases hlt : k < es.length
    · obtain ⟨ad, a, b, m, rfl, hab, ht, c1, c2, c3⟩ := HC.out k hlt
      obtain ⟨d1, d2, d3⟩ := tri_cells hbel.out hab c1 c2 c3
      have hen := HEn.out _ (List.mem_of_getElem? ht.out)
      simp only at hen
      obtain ⟨x, rfl⟩ := Int.eq_ofNat_of_zero_le hen.1
      obtain ⟨y, rfl⟩ := Int.eq_ofNat_of_zero_le hen.2.2.1
      have hx : x < 12 := by omega
      have hy : y < 12 := by omega
      have HJ := Lib.hid (join_any _ w1.heap.size x y _ _ (joinAll_fo grown_fo (ends_take HEn.out k)) hx hy (hbl.out.alloc (.cells #[.int .i64 x, .int .i64 y, .int .i64 m] 54)))
      have HS : Hid (joinF (joinAll grownF (es.take k)) x y = joinAll grownF (es.take (k + 1))) := by
        show _ = _; rw [take_tri ht, joinAll_snoc]; simp
      clear c1 c2 c3 HC ht hen
      go_wp2_with fail
      refine HJ.out.mono ?_
      rintro e w' ⟨⟨v, rfl⟩, hj, hb⟩
      rw [HS.out] at hj
      have HB := Lib.hid hb
      have HJ2 := Lib.hid hj
      clear hb hj
      go_wp2
      go_roundw
      case rel => exact ⟨k + 1, by omega, by go_num, HJ2.out, (hre.out.alloc _).below HB.out (by omega), (hbel.out.alloc (by omega) _).trans (HB.out.mono (by omega))⟩
      case measure => simp [intOf]; omega
    · have hke : es.take k = es := List.take_of_length_le (by omega)
      rw [hke] at hbl
      have hth2 := Lib.hid hre.out.there
      have hlen : (joinAll grownF es).length = 12 := (joinAll_fo grown_fo HEn.out).1
      have hz2 := Lib.hid (hre.out.setCells (nvL (joinAll grownF es)) 0 (by simp [nvL, hlen, partG]))
      have HLn := Lib.hid hlen
      clear hke hlen
      go_wp2_with (first
        | (refine wpList_load_row rfl 150 _ rfl w1.heap.size rfl 150 _ (0, 0) _ hbl.out Tryz.underlying150 rfl (fo_size HLn.out) ?_)
        | (refine wpList_store_mid rfl 150 _ _ rfl (w.heap.size + 1) 0 (nvL (joinAll grownF es)).toArray rfl rfl (by have := hth2.out; simpa [nvL, HLn.out, partG] using this) (fo_size HLn.out) (all_oneCell_toArray (nvL_one _)) ?_))
      refine bodyPost_ret (results_cell_row rfl _ _ (w.heap.size + 1) 150 (nvL (joinAll grownF es)).toArray (0, 0) _ rfl hz2.out Tryz.underlying150 rfl (fo_size HLn.out)) rfl ⟨rfl, below_setCells hbel.out (by omega) _ _⟩
end Go.Proofs.YtjfggodnfoknfaaGreatDoor

namespace Go.Proofs.YtjfggodnfoknfaaGreatDoor
open Go.RowKit Go.Maps

theorem OV.shape_ {w : World} {B : Nat} {e : TypeId} {v : Value} {us : List Value} (h : OV w B e v us) (hl : 1 ≤ us.length) : ∃ g cap, v = .slice (some ⟨g, 0, none⟩) us.length cap := by
  rcases h.1.2 with ⟨_, hn⟩ | ⟨g, cap, cur, rfl, hg, hh, _⟩
  · omega
  · exact ⟨g, cap, rfl⟩
section
variable {P : Program} (w : World)
/-- append onto an own slice, at a step of a region that draws its order. -/
theorem step_appendV {ops : Array Oper} {o : Oper} {a : Act} {K : Act → World → Prop} {Q : Exit → Act → World → Prop} {E : Prop} (hgd : o.guard = none) (s x : Operand) (t : TypeId)
    (ho : o.op = .call { callee := .builtin .append, args := #[s, x], argTypes := #[t, t] })
    (e : TypeId) (i : TypeInfo) (z : Value) (bytes : Nat) (ht : P.underlying t = some (.slice e)) (hi : P.info? e = some i) (hz : i.zero = some z)
    (hsize : i.size = 1) (hby : i.bytes = bytes) (hzs : z.cells.size = 1) (B : Nat) (v : Value) (us : List Value) (hs : a.eval s = v) (hown : OV w B e v us)
    (vx : Value) (news : List Value) (hx : a.eval x = vx) (hr : RV w vx news) (hn : 1 ≤ news.length)
    (h1 : ∀ u ∈ news, u.oneCell' = true) (hb1 : us.length + news.length ≤ 17592186044415) (hb2 : (us.length + news.length) * bytes ≤ 140737488355328) (hB : B ≤ w.heap.size)
    (h : ∀ g cap w', OV w' B e (.slice (some ⟨g, 0, none⟩) (us.length + news.length) cap) (us ++ news) → w.grownBy w' v.ownBlock → ((Value.slice (some ⟨g, 0, none⟩) (us.length + news.length) cap).ownBlock = v.ownBlock ∨ (Value.slice (some ⟨g, 0, none⟩) (us.length + news.length) cap).ownBlock = some w.heap.size) → K (a.put o.dst (.slice (some ⟨g, 0, none⟩) (us.length + news.length) cap)) w') :
    if Region.wanted o (yielded ops a.tmps) = true then Oper.wp P o a w K Q else E := by
  have hw : Region.wanted o (yielded ops a.tmps) = true := by simp [Region.wanted, hgd]
  rw [if_pos hw]
  obtain ⟨v', w', hrun, h2, h3, h4⟩ := run_appendV (P := P) w t o.type e i z bytes ht hi hz hsize hby hzs B v us hown vx news hr h1 hb1 hb2 hB
  obtain ⟨g, cap, rfl⟩ := OV.shape_ h2 (by simp; omega)
  rw [List.length_append] at hrun h2 h4
  unfold Oper.wp execOp
  simp only [ho, resolve, invoke, builtin, Sem.run_bind, Sem.run_pure, Result.andThen_ok, List.map_toArray, List.map_cons, List.map_nil, hs, hx, hrun]
  exact h g cap w' h2 h3 h4
end
theorem law_int : Keyed Tryz.prog 3 := int_keyed Tryz.underlying3
theorem zero_int (w : World) : (zeroValue 3).run Tryz.prog w = .ok (.int .i64 0) w := by kernel_rfl
theorem row_info : (Tryz.prog.info? 25).map (fun i => (i.zero, i.size, i.bytes)) = some (some (.slice none 0 0), 1, 24) := by kernel_rfl
theorem wf_nat {k : Nat} (h : k < 1000) : (Lit.int .i64 (k : Int)).wf = true := by
  have h1 : IntKind.i64.min = -9223372036854775808 := by decide
  have h2 : IntKind.i64.max = 9223372036854775807 := by decide
  simp only [Lit.wf, h1, h2, Bool.and_eq_true, decide_eq_true_eq]
  omega
/-- The rows of the parts so far: k vertices are in them, m roots have a place. -/
def PartsR (f : List Nat) (B bm k m : Nat) (v : Value) (wr : World) : Prop :=
  ∃ (us : List Value) (D : DataW Unit), OV wr B 25 v us ∧ us.length = partsN m f ∧ B ≤ bm ∧ wr.ownsMap Tryz.prog 3 (plainElem Tryz.prog 3) bm m D ∧ IsMap D ∧
    (∀ r, r < m → f.getD r r = r → ∃ i, i < us.length ∧ D.atKey (.int .i64 r) (.lit (.int .i64 0)) = .lit (.int .i64 (i : Nat))) ∧
    (∀ (j : Nat) (u : Value), us[j]? = some u → ∃ zs, OI wr B u zs ∧ zs.length ≤ k) ∧
    (∀ (i j : Nat) (u u' : Value), us[i]? = some u → us[j]? = some u' → i ≠ j → u.ownBlock = none ∨ u.ownBlock ≠ u'.ownBlock)
theorem OV.block_ {w : World} {B : Nat} {e : TypeId} {v : Value} {us : List Value} (h : OV w B e v us) {g : Nat} (hg : v.ownBlock = some g) : ∃ cur, w.heap[g]? = some (.cells cur e (0, 0)) ∧ B ≤ g ∧ g < w.heap.size := by
  rcases h.1.2 with ⟨rfl, _⟩ | ⟨g', cap, cur, rfl, hB, hh, _⟩
  · simp [Value.ownBlock] at hg
  · simp only [Value.ownBlock, Option.some.injEq] at hg
    subst hg
    exact ⟨cur, hh, hB, lt_of_block hh⟩
theorem OV.apart {w : World} {B B' : Nat} {e e' : TypeId} {v v' : Value} {us us' : List Value} (h : OV w B e v us) (h' : OV w B' e' v' us') (he : e ≠ e') : v.ownBlock = none ∨ v.ownBlock ≠ v'.ownBlock := by
  cases hv : v.ownBlock with
  | none => exact .inl rfl
  | some g =>
    right
    intro heq
    obtain ⟨c, hc, _⟩ := h.block_ hv
    obtain ⟨c', hc', _⟩ := h'.block_ heq.symm
    rw [hc] at hc'
    simp only [Option.some.injEq, Obj.cells.injEq] at hc'
    exact he hc'.2.1
theorem OV.off_map {w : World} {B : Nat} {e : TypeId} {v : Value} {us : List Value} (h : OV w B e v us) {P : Program} {t : TypeId} {R : Value → Option (DataW Unit × List MemPlace)} {b n : Nat} {D : DataW Unit} (hm : w.ownsMap P t R b n D) : v.ownBlock ≠ some b := by
  intro hv
  obtain ⟨c, hc, _⟩ := h.block_ hv
  obtain ⟨es, cl, hb, _⟩ := hm
  rw [hc] at hb; cases hb
theorem OV.kept' {w w' : World} {B : Nat} {e : TypeId} {v : Value} {us : List Value} {row : Option Nat} (h : OV w B e v us) (hg : w.grownBy w' row) (hne : v.ownBlock = none ∨ v.ownBlock ≠ row) : OV w' B e v us :=
  ⟨h.1.kept hg hne, h.2⟩
theorem OV.at_ {w : World} {B : Nat} {e : TypeId} {v : Value} {us : List Value} (h : OV w B e v us) {k : Nat} {u : Value} (hk : us[k]? = some u) :
    ∃ g cap, v = .slice (some ⟨g, 0, none⟩) us.length cap ∧ B ≤ g ∧ g < w.heap.size ∧ w.cell? ⟨g, k, none⟩ = some u ∧ w.frozen? ⟨g, k, none⟩ = false ∧
      ∀ x : Value, OV (w.setCell ⟨g, k, none⟩ x) B e (.slice (some ⟨g, 0, none⟩) us.length cap) (us.set k x) ∧ w.grownBy (w.setCell ⟨g, k, none⟩ x) (some g) := by
  have hkl := (List.getElem?_eq_some_iff.1 hk).1
  obtain ⟨h1, h2⟩ := h
  rcases h1.2 with ⟨_, hn⟩ | ⟨g, cap, cur, rfl, hg, hh, hn, hm, hs, ht⟩
  · omega
  · refine ⟨g, cap, rfl, hg, lt_of_block hh, ?_, h1.frozenAt k, fun x => ?_⟩
    · rw [h1.cellAt k (by omega), hk]
    · have := h1.stored k x
      exact ⟨⟨by rw [List.length_set]; exact this.1, by simpa using h2⟩, this.2⟩
theorem PartsR.draw {f : List Nat} {B bm k m : Nat} {v : Value} {wr : World} (h : PartsR f B bm k m v wr) : PartsR f B bm k m v wr.drew := by
  obtain ⟨us, D, h1, h2, h3, h4, h5, h6, h7, h8⟩ := h
  exact ⟨us, D, h1, h2, h3, h4, h5, h6, h7, h8⟩
/-- One vertex goes to its row. -/
theorem parts_step {f : List Nat} {B bm k : Nat} {v : Value} {wr : World} (h : PartsR f B bm k (k + 1) v wr) {r : Nat} (hr : r < k + 1) (hf : f.getD r r = r) (hk : k < 12) :
    ∃ i n g cap u zs, v = .slice (some ⟨g, 0, none⟩) n cap ∧ i < n ∧ n ≤ 12 ∧ B ≤ g ∧
      (∀ W : World, wr.grownBy W u.ownBlock → (Instr.lookup 199 (.map (some bm)) (.int .i64 r) false).run Tryz.prog W = .ok (.int .i64 (i : Nat)) W) ∧ wr.cell? ⟨g, i, none⟩ = some u ∧ OI wr B u zs ∧ zs.length ≤ k ∧
      ∀ (x : Value) (u' : Value) (w1 : World), OV w1 B 3 u' (zs.map (Value.int .i64) ++ [.int .i64 (k : Nat)]) → (wr.alloc (.cells #[x] 3)).grownBy w1 u.ownBlock → (u'.ownBlock = u.ownBlock ∨ u'.ownBlock = some (wr.heap.size + 1)) →
        w1.cell? ⟨g, i, none⟩ = some u ∧ w1.frozen? ⟨g, i, none⟩ = false ∧ PartsR f B bm (k + 1) (k + 1) v (w1.setCell ⟨g, i, none⟩ u') := by
  obtain ⟨us, D, hv, hlen, hbm, hmap, hD, hroot, hrow, hdis⟩ := h
  obtain ⟨i, hi, hat⟩ := hroot r hr hf
  obtain ⟨u, hu⟩ : ∃ u, us[i]? = some u := ⟨_, List.getElem?_eq_getElem hi⟩
  obtain ⟨zs, hz, hzl⟩ := hrow i u hu
  obtain ⟨g, cap, rfl, hg, hgl, hc, hfz, hst⟩ := hv.at_ hu
  have hle : partsN (k + 1) f ≤ k + 1 := countN_le _ _
  have hrun : ∀ W : World, wr.grownBy W u.ownBlock → (Instr.lookup 199 (.map (some bm)) (.int .i64 r) false).run Tryz.prog W = .ok (.int .i64 (i : Nat)) W := fun W hW => by
    have hmW := hmap.kept hW (fun e => OV.off_map hz hmap e.symm)
    obtain ⟨c, hrun, hc2, _⟩ := hmW.lookup_int law_int Tryz.underlying199 Tryz.underlying3 (zero_int W) (keyOf_int_mk Tryz.underlying3 (wf_nat (k := r) (by omega)))
    rw [hat] at hc2
    have hci : c = (i : Nat) := by simp only [DataW.lit.injEq, Lit.int.injEq, true_and] at hc2; exact hc2.symm
    rw [hci] at hrun
    exact hrun
  refine ⟨i, us.length, g, cap, u, zs, rfl, hi, by omega, hg, hrun, hc, hz, hzl, fun x u' w1 hown hgr hat' => ?_⟩
  have hga : wr.grownBy (wr.alloc (.cells #[x] 3)) u.ownBlock := World.grownBy_alloc wr _ _
  have hgr' : wr.grownBy w1 u.ownBlock := hga.trans hgr
  have hvu := hv.apart hz (by decide)
  have hv1 := hv.kept' hgr' hvu
  obtain ⟨g', cap', he, _, _, hc1, hf1, hst1⟩ := hv1.at_ hu
  simp only [Value.slice.injEq, Option.some.injEq, Addr.mk.injEq, and_true, true_and] at he
  obtain ⟨rfl, rfl⟩ := he
  have hm1 : w1.ownsMap Tryz.prog 3 (plainElem Tryz.prog 3) bm (k + 1) D := hmap.kept hgr' (fun e => OV.off_map hz hmap e.symm)
  have hu'g : u'.ownBlock ≠ some g := by
    intro e
    obtain ⟨cc, hh, _⟩ := hown.block_ e
    obtain ⟨cc', hh', _⟩ := hv1.block_ (g := g) rfl
    rw [hh] at hh'
    simp only [Option.some.injEq, Obj.cells.injEq] at hh'
    exact absurd hh'.2.1 (by decide)
  refine ⟨hc1, hf1, us.set i u', D, (hst1 u').1, by rw [List.length_set]; exact hlen, hbm, hm1.kept (hst1 u').2 (fun e => OV.off_map hv1 hm1 e.symm), hD, fun r' h1 h2 => by rw [List.length_set]; exact hroot r' h1 h2, ?_, ?_⟩
  · intro j y hy
    rw [List.getElem?_set] at hy
    by_cases e : i = j
    · rw [if_pos e, if_pos hi] at hy
      obtain rfl := Option.some.inj hy
      refine ⟨zs ++ [(k : Int)], ?_, by simp; omega⟩
      have : OV w1 B 3 u' ((zs ++ [(k : Int)]).map (Value.int .i64)) := by simpa using hown
      exact this.kept' (hst1 u').2 (.inr hu'g)
    · rw [if_neg e] at hy
      obtain ⟨zs', hz', hl'⟩ := hrow j y hy
      exact ⟨zs', (hz'.kept' hgr' (hdis j i y u hy hu (fun h => e h.symm))).kept' (hst1 u').2 (hz'.apart hv (by decide)), by omega⟩
  · intro a b y y' hy hy' hab
    rw [List.getElem?_set] at hy hy'
    have hlt : ∀ (j : Nat) (y : Value), us[j]? = some y → ∀ b, y.ownBlock = some b → b < wr.heap.size := fun j y hy b hb => by
      obtain ⟨zs', hz', _⟩ := hrow j y hy
      obtain ⟨_, _, _, h⟩ := hz'.block_ hb
      exact h
    by_cases e1 : i = a
    · by_cases e2 : i = b
      · omega
      · rw [if_pos e1, if_pos hi] at hy
        rw [if_neg e2] at hy'
        obtain rfl := Option.some.inj hy
        rcases hat' with h | h
        · rw [h]; exact hdis i b u y' hu hy' e2
        · right
          rw [h]
          intro e
          have := hlt b y' hy' _ e.symm
          omega
    · rw [if_neg e1] at hy
      by_cases e2 : i = b
      · rw [if_pos e2, if_pos hi] at hy'
        obtain rfl := Option.some.inj hy'
        rcases hat' with h | h
        · rw [h]; exact hdis a i y u hy hu (fun h => e1 h.symm)
        · right
          rw [h]
          intro e
          have := hlt a y hy _ e
          omega
      · rw [if_neg e2] at hy'
        exact hdis a b y y' hy hy' hab
end Go.Proofs.YtjfggodnfoknfaaGreatDoor

