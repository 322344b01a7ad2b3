/- The iterator of chips.All: from. -/
import Derived.Test.YtcmkllfocifnlaaChipJ
import Derived.Test.YtcmkllfocifnlaaIter
import Derived.Sort.LoopGhostIn
namespace Go.Proofs.Ytcmkllfocifnlaa
open Go.RowKit Go.Shelf
attribute [local go_sem] Oper.semAt_some

inductive IsChain : List Int → List (List Int) → Prop
  | one {zs : List Int} : stepL zs = none → IsChain zs [zs]
  | more {zs zs' : List Int} {L : List (List Int)} : stepL zs = some zs' → IsChain zs' L → IsChain zs (zs :: L)
theorem IsChain.head {zs : List Int} {L : List (List Int)} (h : IsChain zs L) : ∃ r, L = zs :: r := by cases h <;> exact ⟨_, rfl⟩
def Good (zs : List Int) : Prop := 1 ≤ zs.length ∧ zs.length ≤ 17592186044415 ∧ ∀ z ∈ zs, -1099511627776 ≤ z ∧ z ≤ 1099511627776

def fromR (gst : Nat) (A B : World) : Prop := A.grownBy B (some gst)
def fromK (gst bx : Nat) (A B : World) : Prop := A.heap.size ≤ B.heap.size ∧ B.heap[gst]? = A.heap[gst]? ∧ B.heap[bx]? = A.heap[bx]?
def fromPre (gst bx Bi n cap : Nat) (zs : List Int) (W : World) : Prop :=
  gst < Bi ∧ bx < Bi ∧ bx ≠ gst ∧ Bi ≤ W.heap.size ∧ W.heap[bx]? = some (.cells #[.slice (some ⟨gst, 0, none⟩) n cap] 23 (0, 0)) ∧ OI W gst (.slice (some ⟨gst, 0, none⟩) n cap) zs
abbrev DItem := Value × List Int
def fromIt (Bi N : Nat) (pre : List DItem) (x : DItem) (W : World) : Prop := OI W Bi x.1 x.2 ∧ pre.length < N

theorem OV.keepBlock {w w' : World} {B g n cap : Nat} {e : TypeId} {us : List Value} (h : OV w B e (.slice (some ⟨g, 0, none⟩) n cap) us) (hk : w'.heap[g]? = w.heap[g]?) : OV w' B e (.slice (some ⟨g, 0, none⟩) n cap) us := by
  obtain ⟨⟨h1, h2⟩, h3⟩ := h
  refine ⟨⟨h1, ?_⟩, h3⟩
  rcases h2 with h2 | ⟨g', cap', cur, hv, hg, hh, r⟩
  · exact .inl h2
  · simp only [Value.slice.injEq, Option.some.injEq, Addr.mk.injEq, and_true] at hv
    obtain ⟨rfl, hn, rfl⟩ := hv
    exact .inr ⟨g, cap, cur, by rw [hn], hg, hk.trans hh, r⟩

set_option maxRecDepth 100000 in
set_option maxHeartbeats 1000000 in
theorem from1_iter (gst bx Bi n cap : Nat) (zs : List Int) (L : List (List Int)) (hch : IsChain zs L) (hgood : ∀ z ∈ L, Good z) :
    IterC Try.prog 86 #[.pointer (some ⟨bx, 0, none⟩)] (fun x : DItem => #[x.1]) (fromIt Bi L.length) (fromR gst) (fromK gst bx) (fun xs => xs.map (·.2) = L) (fun _ => True) (fromPre gst bx Bi n cap zs) := by
  intro N l J Jx W hpre hJ hJx hY h0
  have HG := Lib.hid hgood
  have HJ := Lib.hid hJ
  have HY := Lib.hid hY
  obtain ⟨p1, p2, p3, p4, p5, p6⟩ := hpre
  clear hJ hY hgood hJx
  refine callsIn_of_wp Try.func86 rfl trivial ?_ rfl
  simp only [Try.ntmps86, List.size_toArray, List.length_cons, List.length_nil, Nat.reduceAdd, Nat.reduceSub, Array.replicate_succ, Array.replicate_zero, List.push_toArray, List.append_toArray, List.nil_append, List.cons_append]
  gi_wp2
  gi_loopg [3] (L.length + 1) (fun k m wr => ∃ pre : List DItem, Hid (J pre wr) ∧ Bi ≤ wr.heap.size ∧ Hid (wr.heap[bx]? = some (.cells #[.slice (some ⟨gst, 0, none⟩) n cap] 23 (0, 0))) ∧
    ((m = .bool false ∧ Hid (pre.map (·.2) = L)) ∨ ∃ cur rest, m = .bool true ∧ Hid (IsChain cur (cur :: rest)) ∧ Hid (pre.map (·.2) ++ cur :: rest = L) ∧ Hid (OI wr gst (.slice (some ⟨gst, 0, none⟩) n cap) cur) ∧ rest.length < k))
  case atStart =>
    obtain ⟨r, hr⟩ := hch.head
    exact ⟨[], h0, p4, p5, .inr ⟨zs, r, rfl, by rw [hr] at hch; exact hch, by simp [Hid, hr], p6, by rw [hr]; simp; omega⟩⟩
  case round =>
    obtain ⟨pre, hj, hsz, hbx, (⟨rfl, hm⟩ | ⟨cur, rest, rfl, hc, hm, ho, hlt⟩)⟩ := hrel
    · gi_wp2
      go_end0
      exact ⟨⟨_, rfl⟩, .inl ⟨pre, hm.out, hj.out⟩⟩
    · have hcb := cell_of_one hbx.out
      obtain ⟨g1, g2, g3⟩ := HG.out cur (by rw [← hm.out]; simp)
      have G3 := Lib.hid g3
      clear g3
      gi_wp2_with fail
      refine ⟨trivial, ?_⟩
      refine ⟨fun h => (by simp [Fence.wide] at h), ?_⟩
      refine (callsIn_wide.2 (CloneD_any _ cur wr (OI.ri ho.out) g2)).mono ?_
      rintro e w1 ⟨u, rfl, ho1, hb1⟩
      have hb1' := Lib.hid hb1
      have hJ1 := HJ.out pre wr w1 hj.out ⟨hb1.os, hb1.tape, hb1.output, hb1.size, fun k hk _ => hb1.block k hk⟩
      obtain ⟨fn, tmps, assign, body, hy, hRd⟩ := HY.out pre (u, cur) w1 hJ1 ⟨OV.mono ho1 hsz, by rw [← hm.out]; simp⟩
      dsimp only at hy hRd
      have HR := Lib.hid hRd
      have HO1 := Lib.hid ho1
      clear hRd ho1 hJ1 hb1
      gi_wp2_with fail
      refine ⟨fun h => (by simp [Fence.wide] at h), HR.out.mono ?_⟩
      have hb1 := hb1'.out
      rintro e W2 (⟨rfl, hJ2, k1, k2, k3⟩ | ⟨rfl, hJx2⟩)
      · have e1 : w1.heap[gst]? = wr.heap[gst]? := hb1.block gst (by omega)
        have e2 : w1.heap[bx]? = wr.heap[bx]? := hb1.block bx (by omega)
        have hbx2 := Lib.hid (k3.trans (e2.trans hbx.out))
        have hcb2 := cell_of_one hbx2.out
        have ho2 := Lib.hid (show OI W2 gst (.slice (some ⟨gst, 0, none⟩) n cap) cur from OV.keepBlock ho.out (k2.trans e1))
        have hsz2 : Bi ≤ W2.heap.size := by have := hb1.size; omega
        have HJ2 := Lib.hid hJ2
        clear hJ2 k2 k3 e1 e2 hy
        have hcases : (rest = [] ∧ stepL cur = none) ∨ ∃ zs' r', rest = zs' :: r' ∧ stepL cur = some zs' ∧ IsChain zs' (zs' :: r') := by
          cases hc.out with
          | one h => exact .inl ⟨rfl, h⟩
          | more h h' => obtain ⟨r, rfl⟩ := h'.head; exact .inr ⟨_, _, rfl, h, h'⟩
        rcases hcases with ⟨rfl, hs⟩ | ⟨zs', r', rfl, hs, hc'⟩
        · have HS := Lib.hid hs
          clear hs
          gi_wp2_with fail
          refine ⟨trivial, fun h => (by simp [Fence.wide] at h), ?_⟩
          refine (callsIn_wide.2 (step_any _ cur gst W2 ho2.out g1 G3.out)).mono ?_
          unfold StepPost
          rw [HS.out]
          rintro e w3 ⟨rfl, rfl⟩
          gi_wp2
          gi_roundg 0
          case measure => omega
          case rel => exact ⟨pre ++ [(u, cur)], HJ2.out, hsz2, hbx2.out, .inl ⟨rfl, by have := hm.out; simpa [Hid] using this⟩⟩
        · have HS := Lib.hid hs
          have HC := Lib.hid hc'
          clear hs hc'
          gi_wp2_with fail
          refine ⟨trivial, fun h => (by simp [Fence.wide] at h), ?_⟩
          refine (callsIn_wide.2 (step_any _ cur gst W2 ho2.out g1 G3.out)).mono ?_
          unfold StepPost
          rw [HS.out]
          rintro e w3 ⟨rfl, ho3, hg3⟩
          have HO3 := Lib.hid ho3
          have HG3 := Lib.hid hg3
          clear ho3 hg3
          gi_wp2
          gi_roundg (gk - 1)
          case measure => omega
          case rel =>
            have hg3 : W2.grownBy w3 (some gst) := HG3.out
            refine ⟨pre ++ [(u, cur)], HJ.out _ _ _ HJ2.out hg3, Nat.le_trans hsz2 hg3.size, (hg3.block bx (by omega) (by simp; exact p3)).trans hbx2.out, .inr ⟨zs', r', rfl, HC.out, by have := hm.out; simpa [Hid] using this, HO3.out, ?_⟩⟩
            simp only [List.length_cons] at hlt
            omega
      · clear hy
        gi_wp2
        refine bodyPost_ret (results_none rfl _ _ _) rfl ?_
        exact ⟨⟨_, rfl⟩, .inr ⟨pre ++ [(u, cur)], trivial, hJx2⟩⟩
end Go.Proofs.Ytcmkllfocifnlaa
