/- Contracts of the reference of layer 17: Listed, Count. -/
import Derived.Test.YtcmkllfocifnlaaRefE
namespace Go.Proofs.Ytcmkllfocifnlaa
open Go.RowKit Go.Shelf

/-- The list's own row, each element a slice of the call's own. -/
def CollR (B : Nat) (W : World) (o : Value) (pre : List (List Int)) : Prop :=
  ∃ items : List DItem, OV W B 23 o (items.map (·.1)) ∧ items.map (·.2) = pre ∧ ∀ x ∈ items, OI W B x.1 x.2
theorem CollR.nil_ (B : Nat) (W : World) : CollR B W (.slice none 0 0) [] := ⟨[], OV.nil_ _ _ _, rfl, fun x hx => by simp at hx⟩
theorem CollR.below {B : Nat} {w W : World} {o : Value} {pre : List (List Int)} (h : CollR B w o pre) (hb : Below w.heap.size w W) : CollR B W o pre := by
  obtain ⟨items, h1, h2, h3⟩ := h
  exact ⟨items, h1.below hb, h2, fun x hx => (h3 x hx).below hb⟩
theorem CollR.rr {B : Nat} {W : World} {o : Value} {pre : List (List Int)} (h : CollR B W o pre) : RR W o pre := by
  obtain ⟨items, h1, rfl, h3⟩ := h
  refine ⟨items.map (·.1), OV.rv h1, by simp, fun k z hk => ?_⟩
  rw [List.getElem?_map] at hk
  obtain ⟨x, hx, rfl⟩ := Option.map_eq_some_iff.1 hk
  exact ⟨x.1, by rw [List.getElem?_map, hx]; rfl, OV.rv (h3 x (List.mem_of_getElem? hx))⟩
theorem chain_cases {cur : List Int} {rest : List (List Int)} (h : IsChain cur (cur :: rest)) : (rest = [] ∧ followL cur = ([], false)) ∨ ∃ zs' r', rest = zs' :: r' ∧ followL cur = (zs', true) ∧ IsChain zs' (zs' :: r') := by
  cases h with
  | one h => left; exact ⟨rfl, by rw [stepL_eq] at h; unfold followL; rw [h]⟩
  | more h h' => right; obtain ⟨r, rfl⟩ := h'.head; exact ⟨_, _, rfl, by rw [stepL_eq] at h; unfold followL; rw [h], h'⟩

set_option maxRecDepth 100000 in
set_option maxHeartbeats 2000000 in
theorem Listed_any (m q : Nat) (hm1 : 1 ≤ m) (hm2 : m ≤ 12) (hq : q ≤ 1048576) (hL : (comps (m - 1) q).length ≤ 1000000) (w : World) :
    Calls Try.prog 67 #[.int .i64 m, .int .i64 q] w fun e w' => ∃ v, e = .returned v ∧ RR w' v (comps (m - 1) q) ∧ Below w.heap.size w w' := by
  obtain ⟨i0, hi, hz0, hz1, hz2⟩ := info_parts int_info
  obtain ⟨j0, hj, hj0, hj1, hj2⟩ := info_parts slice_info
  have hch := Lib.hid (comps_chain (m - 1) q)
  have hgood : Hid (∀ z ∈ comps (m - 1) q, z.length = m ∧ NonNeg z) := by
    intro z hz
    obtain ⟨a1, a2, a3⟩ := comps_mem hz
    exact ⟨by omega, fun t ht => ⟨a3 t ht, by have := le_sum a3 ht; omega⟩⟩
  generalize comps (m - 1) q = L at *
  have HLL := Lib.hid hL
  clear hL
  go_enter Try.func67, Try.ntmps67
  go_wp2_with (at_make; refine wpList_make_full _ rfl _ _ _ rfl w.heap.size 3 i0 _ 1 Try.underlying23 hi hz0 hz1 .i64 .i64 _ _ m rfl rfl rfl rfl (by rw [hz2]; omega) (by unfold maxLen; omega) (by simp) ?_; intro w1 hown1 hg1; obtain ⟨-, -, hc1, hf1, hst1⟩ := OI.at' (own_zeros hown1 (by omega)) (k := m - 1) (by simp; omega); obtain ⟨hs1, hs2⟩ := hst1 q; rw [zeros_at] at hc1; have HS := Lib.hid hs1; have HG2 := Lib.hid hs2; have HG := Lib.hid hg1; clear hown1 hg1 hst1 hs1 hs2)
  have HA : Hid (OI (w1.setCell ⟨w.heap.size, m - 1, none⟩ (.int .i64 q)) w.heap.size (.slice (some ⟨w.heap.size, 0, none⟩) m m) (firstC (m - 1) q)) := by
    show OI _ _ _ _; rw [firstC_set hm1]; exact HS.out
  have HB : Hid (Below w.heap.size w (w1.setCell ⟨w.heap.size, m - 1, none⟩ (.int .i64 q))) := (below_grown HG.out (Below.refl _ _)).setCell (p := ⟨w.heap.size, m - 1, none⟩) (Nat.le_refl _) _
  clear HS HG HG2
  generalize w1.setCell ⟨w.heap.size, m - 1, none⟩ (.int .i64 q) = W2 at *
  go_loopg [5, 6, 7] (L.length + 1) (fun gk d o ok wr => ∃ pre : List (List Int), Hid (CollR w.heap.size wr o pre) ∧ Hid (Below w.heap.size w wr) ∧
    ((ok = .bool false ∧ Hid (pre = L)) ∨ ∃ cur rest, ok = .bool true ∧ Hid (IsChain cur (cur :: rest)) ∧ Hid (pre ++ cur :: rest = L) ∧ Hid (OI wr w.heap.size d cur) ∧ rest.length < gk))
  case atStart =>
    obtain ⟨r, hr⟩ := hch.out.head
    exact ⟨[], CollR.nil_ _ _, HB.out, .inr ⟨firstC (m - 1) q, r, rfl, by have := hch.out; rw [hr] at this; exact this, by rw [hr]; rfl, HA.out, by rw [hr]; simp; omega⟩⟩
  case round =>
    obtain ⟨pre, hcoll, hbel, (⟨rfl, hm⟩ | ⟨cur, rest, rfl, hc, hm, ho, hlt⟩)⟩ := hrel
    · go_wp2
      go_ret
      exact ⟨_, rfl, by rw [← hm.out]; exact hcoll.out.rr, hbel.out⟩
    · obtain ⟨g1, g2⟩ := hgood.out cur (by rw [← hm.out]; simp)
      have G2 := Lib.hid g2
      obtain ⟨items, hr1, hr2, hr3⟩ := hcoll.out
      have hli : items.length ≤ 1000000 := by
        have h1 := congrArg List.length hm.out
        have h2 := congrArg List.length hr2
        have h3 := HLL.out
        simp at h1 h2; omega
      obtain ⟨g, cap, rfl, hgB, hgl⟩ := OV.shape ho.out (by simp; omega)
      rw [show (cur.map (Value.int .i64)).length = m by simp; exact g1] at *
      have hx1 := Lib.hid (RV.one wr (.slice (some ⟨g, 0, none⟩) m cap) 23)
      have hov := Lib.hid (hr1.below (below_alloc wr (.cells #[.slice (some ⟨g, 0, none⟩) m cap] 23)))
      have hone := Lib.hid (one_one (u := .slice (some ⟨g, 0, none⟩) m cap) rfl)
      have HR2 := Lib.hid hr2
      have HR3 := Lib.hid hr3
      have hgm : cur.length = m := g1
      have HGM := Lib.hid hgm
      clear hr1 hr2 hr3 g1 g2 hcoll hgm
      have hsz := hbel.out.size
      go_wp2_with (at_builtin; refine wpList_appendV _ rfl _ _ _ rfl 23 j0 _ 24 Try.underlying40 hj hj0 hj1 hj2 rfl w.heap.size _ _ rfl hov.out _ _ rfl hx1.out hone.out (by simp; omega) (by simp; omega) (by simp; omega) ?_; intro v1 w3 hown1 hg1 hat1; clear hat1)
      have HO := Lib.hid hown1
      have hbl := Lib.hid (below_own (hbel.out.trans ((below_alloc wr _).mono hbel.out.size)) (by simp; omega) hov.out hg1)
      have hd3 := Lib.hid (show OI w3 w.heap.size (.slice (some ⟨g, 0, none⟩) m cap) cur from OV.keptOwn (OI.below ho.out (below_alloc wr (.cells #[.slice (some ⟨g, 0, none⟩) m cap] 23))) hov.out (by decide) hg1)
      have hcoll3 : Hid (CollR w.heap.size w3 v1 (pre ++ [cur])) := by
        refine ⟨items ++ [(.slice (some ⟨g, 0, none⟩) m cap, cur)], by simpa using HO.out, by rw [List.map_append, HR2.out]; rfl, fun x hx => ?_⟩
        rcases List.mem_append.1 hx with hx | hx
        · exact OV.keptOwn (OI.below (HR3.out x hx) (below_alloc wr (.cells #[.slice (some ⟨g, 0, none⟩) m cap] 23))) hov.out (by decide) hg1
        · rw [List.mem_singleton.1 hx]; exact hd3.out
      clear hown1 hg1 HO HR3 HR2 hov hx1 hone
      have hF := Lib.hid (Follows_any _ cur w3 hd3.out.ri G2.out (by have := HGM.out; omega) (by have := HGM.out; omega))
      rcases chain_cases hc.out with ⟨rfl, hs⟩ | ⟨zs', r', rfl, hs, hc'⟩
      · rw [hs] at hF
        clear hs
        go_wp2_with fail
        refine hF.out.mono ?_
        rintro e w4 ⟨u, rfl, ho4, hb4⟩
        have HB4 := Lib.hid hb4
        clear ho4 hb4
        go_wp2
        go_roundg 0
        case measure => omega
        case rel => exact ⟨pre ++ [cur], hcoll3.out.below HB4.out, hbl.out.trans (HB4.out.mono hbl.out.size), .inl ⟨rfl, by have := hm.out; simpa [Hid] using this⟩⟩
      · rw [hs] at hF
        have HC := Lib.hid hc'
        clear hs hc'
        go_wp2_with fail
        refine hF.out.mono ?_
        rintro e w4 ⟨u, rfl, ho4, hb4⟩
        have HB4 := Lib.hid hb4
        have HO4 := Lib.hid (OV.mono ho4 hbl.out.size)
        clear ho4 hb4
        go_wp2
        go_roundg (gk - 1)
        case measure => omega
        case rel =>
          refine ⟨pre ++ [cur], hcoll3.out.below HB4.out, hbl.out.trans (HB4.out.mono hbl.out.size), .inr ⟨zs', r', rfl, HC.out, by have := hm.out; simpa [Hid] using this, HO4.out, ?_⟩⟩
          simp only [List.length_cons] at hlt
          omega
end Go.Proofs.Ytcmkllfocifnlaa
