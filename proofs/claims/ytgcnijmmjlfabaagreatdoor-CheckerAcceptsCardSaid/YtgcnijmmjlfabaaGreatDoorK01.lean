/- Words for memory: a slice of ints that reads as a list; a slice of values; kept over whatever leaves old blocks alone.
   append onto a slice of the call's own, the source any slice that reads as a list; one store of a value into an own slice.
   Determinants of small tables by expansion along the first row: linear in each column, zero with two equal columns, the rule of Cramer. No program in sight.
   Weighted graphs on n vertices: the Laplacian, the maximum principle, and the uniqueness of reduced divisors. No program in sight.
   The reduced Laplacian as a table: all its leading blocks are injective, so its determinant is not 0, and the rule of Cramer finds scripts. No program in sight.
   How great a script can be: level sets. No program in sight.
   Edge lists: right ones, their weights, their Laplacian, what moves along them. No program in sight.
   Forests of parts: roots, joining, and when there is one part only. No program in sight.
   Words for graphs: a slice of edges (three ints each) that reads as triples.
   Contracts of package graph: vertex, compare, Check.
   Contract of graph.Check.
   Words for blocks that are known whole.
   Contracts of package connect: grown, joined.
   Contract of connect's parts: how many there are.
   Contracts of connect: Components, Connected.
   Contracts of slices at divisors, scripts and ints: Equal, Clone, IndexFunc, ContainsFunc, Compare, Min, Max. Printed by gen/slices35.py.
   What moves along edges, as the code does it: one edge, one vertex, one set at a time. No program in sight.
   Contracts of package chips, the leaves.
   Contracts of package firing: moved.
   A range over a function, where the iterator may write memory of its own between two rounds: the law of the statement, stated with a relation for the iterator's own steps and one for what a round keeps.
   Contracts of package reduced: the iterator links.
   Contracts of package reduced: links, joins. -/
import Derived.BigQuiet
import Derived.Deep.AppendLies
import Derived.Deep.DeepFit
import Derived.Deep.MidRow
import Derived.Deep.RegionLaw
import Derived.Lib.Hide
import Derived.LoopIn
import Derived.LoopNIn
import Derived.Maps.OwnOps
import Derived.Maps.Views
import Derived.OwnWalkIn
import Derived.RangeFuncBound
import Derived.RangeFuncCalls
import Derived.RangeFuncNested
import Derived.Shelf.Abstract
import Derived.Shelf.RegionOpen
import Derived.Sort.LoopGhostIn
import Derived.StillTailTactics
import Derived.Test.YtgcnijmmjlfabaaGreatDoorProg
import Derived.WalkLawsBesides
import Derived.WalkSpells
set_option maxRecDepth 100000
set_option maxHeartbeats 16000000
namespace Go.Proofs.YtgcnijmmjlfabaaGreatDoor
open Go.RowKit

theorem block_of_add (a : Addr) (n : Nat) : (a.add n).block = a.block := by unfold Addr.add; split <;> rfl
theorem add_of_add (a : Addr) (i j : Nat) : (a.add i).add j = a.add (i + j) := by
  unfold Addr.add
  by_cases hi : i = 0 <;> by_cases hj : j = 0 <;> simp [hi, hj, Nat.add_assoc]

/-- The slice value v reads as the one-cell values us. -/
def RV (w : World) (v : Value) (us : List Value) : Prop :=
  ∃ A c, v = .slice A us.length c ∧ us.length ≤ c ∧ us.length ≤ 17592186044415 ∧
    ∀ k, k < us.length → ∃ ad, A = some ad ∧ ad.block < w.heap.size ∧ w.cell? (ad.add k) = us[k]?

/-- The slice value v reads as the ints zs. -/
def RI (w : World) (v : Value) (zs : List Int) : Prop := RV w v (zs.map (.int .i64))

theorem RV.keep {w w' : World} {v : Value} {us : List Value} (h : RV w v us) (hs : w.heap.size ≤ w'.heap.size)
    (hk : ∀ p : Addr, p.block < w.heap.size → w'.cell? p = w.cell? p) : RV w' v us := by
  obtain ⟨A, c, h1, h2, h3, h4⟩ := h
  refine ⟨A, c, h1, h2, h3, fun k hkl => ?_⟩
  obtain ⟨ad, e, hb, hc⟩ := h4 k hkl
  exact ⟨ad, e, by omega, (hk _ (by rw [block_of_add]; exact hb)).trans hc⟩
theorem RV.below {w w' : World} {v : Value} {us : List Value} (h : RV w v us) (hb : Below w.heap.size w w') : RV w' v us :=
  h.keep hb.size fun _ hp => hb.cell hp
theorem RV.nil_ (w : World) : RV w (.slice none 0 0) [] := ⟨none, 0, rfl, by simp, by simp, fun k hk => by simp at hk⟩
theorem RI.below {w w' : World} {v : Value} {zs : List Int} (h : RI w v zs) (hb : Below w.heap.size w w') : RI w' v zs := RV.below h hb
theorem RI.open_ {w : World} {v : Value} {zs : List Int} (h : RI w v zs) : ∃ A c, v = .slice A zs.length c ∧ zs.length ≤ c ∧ zs.length ≤ 17592186044415 ∧
    ∀ k, k < zs.length → ∃ ad z, A = some ad ∧ ad.block < w.heap.size ∧ Hid (zs[k]? = some z) ∧ w.cell? (ad.add k) = some (.int .i64 z) := by
  obtain ⟨A, c, h1, h2, h3, h4⟩ := h
  simp only [List.length_map] at h1 h2 h3 h4
  refine ⟨A, c, h1, h2, h3, fun k hk => ?_⟩
  obtain ⟨ad, e, hb, hc⟩ := h4 k hk
  refine ⟨ad, zs[k], e, hb, List.getElem?_eq_getElem hk, hc.trans ?_⟩
  simp [List.getElem?_map, List.getElem?_eq_getElem hk]
theorem RI.mk_ {w : World} {A : Option Addr} {c : Nat} {zs : List Int} (h2 : zs.length ≤ c) (h3 : zs.length ≤ 17592186044415)
    (h4 : ∀ k z, zs[k]? = some z → ∃ ad, A = some ad ∧ ad.block < w.heap.size ∧ w.cell? (ad.add k) = some (.int .i64 z)) : RI w (.slice A zs.length c) zs := by
  refine ⟨A, c, by simp, by simpa using h2, by simpa using h3, fun k hk => ?_⟩
  simp only [List.length_map] at hk
  obtain ⟨ad, e, hb, hc⟩ := h4 k zs[k] (List.getElem?_eq_getElem hk)
  refine ⟨ad, e, hb, hc.trans ?_⟩
  simp [List.getElem?_map, List.getElem?_eq_getElem hk]

theorem drop_at {α : Type} {l : List α} {k : Nat} {x : α} (h : Hid (l[k]? = some x)) : l.drop k = x :: l.drop (k + 1) := by
  have h' := List.getElem?_eq_some_iff.1 h.out
  obtain ⟨hk, rfl⟩ := h'
  exact List.drop_eq_getElem_cons hk
/-- The slice value v reads as slices of ints. -/
def RR (w : World) (v : Value) (zss : List (List Int)) : Prop :=
  ∃ us : List Value, RV w v us ∧ us.length = zss.length ∧ ∀ (k : Nat) (zs : List Int), zss[k]? = some zs → ∃ u, us[k]? = some u ∧ RI w u zs
theorem RR.below {w w' : World} {v : Value} {zss : List (List Int)} (h : RR w v zss) (hb : Below w.heap.size w w') : RR w' v zss := by
  obtain ⟨us, h1, h2, h3⟩ := h
  refine ⟨us, h1.below hb, h2, fun k zs hk => ?_⟩
  obtain ⟨u, e, hr⟩ := h3 k zs hk
  exact ⟨u, e, hr.below hb⟩
theorem RR.open_ {w : World} {v : Value} {zss : List (List Int)} (h : RR w v zss) : ∃ A c, v = .slice A zss.length c ∧ zss.length ≤ c ∧ zss.length ≤ 17592186044415 ∧
    ∀ k, k < zss.length → ∃ ad zs A1 c1, A = some ad ∧ ad.block < w.heap.size ∧ Hid (zss[k]? = some zs) ∧ w.cell? (ad.add k) = some (.slice A1 zs.length c1) ∧ RI w (.slice A1 zs.length c1) zs := by
  obtain ⟨us, ⟨A, c, h1, h2, h3, h4⟩, hl, hu⟩ := h
  rw [hl] at h1 h2 h3 h4
  refine ⟨A, c, h1, h2, h3, fun k hk => ?_⟩
  obtain ⟨ad, e, hb, hc⟩ := h4 k hk
  obtain ⟨u, hu1, hr⟩ := hu k zss[k] (List.getElem?_eq_getElem hk)
  obtain ⟨A1, c1, rfl, _⟩ := hr.open_
  exact ⟨ad, zss[k], A1, c1, e, hb, List.getElem?_eq_getElem hk, hc.trans hu1, hr⟩
/-- The value v owns the one-cell values us, of element type e, from block B on. -/
def OV (w : World) (B : Nat) (e : TypeId) (v : Value) (us : List Value) : Prop := w.ownsRow B e 1 v us.length us ∧ us.length ≤ 17592186044415
def OI (w : World) (B : Nat) (v : Value) (zs : List Int) : Prop := OV w B 3 v (zs.map (.int .i64))
theorem OV.rv {w : World} {B : Nat} {e : TypeId} {v : Value} {us : List Value} (h : OV w B e v us) : RV w v us := by
  obtain ⟨h, hb⟩ := h
  rcases h.2 with ⟨rfl, hn⟩ | ⟨g, cap, cur, rfl, hg, hh, hn, hm, hs, ht⟩
  · exact ⟨none, 0, by rw [hn], by omega, hb, fun k hk => by omega⟩
  · refine ⟨some ⟨g, 0, none⟩, cap, rfl, hn, hb, fun k hk => ⟨_, rfl, ?_, ?_⟩⟩
    · rcases Nat.lt_or_ge g w.heap.size with hlt | hge
      · exact hlt
      · rw [Array.getElem?_eq_none hge] at hh; cases hh
    · rw [h.cells (g := g) rfl k _ (List.getElem?_eq_getElem hk), List.getElem?_eq_getElem hk]
theorem OI.ri {w : World} {B : Nat} {v : Value} {zs : List Int} (h : OI w B v zs) : RI w v zs := OV.rv h
theorem OV.below {w w' : World} {B : Nat} {e : TypeId} {v : Value} {us : List Value} (h : OV w B e v us) (hb : Below w.heap.size w w') : OV w' B e v us :=
  ⟨h.1.kept (row := none) ⟨hb.os, hb.tape, hb.output, hb.size, fun k hk _ => hb.block k hk⟩ (by cases v.ownBlock <;> simp), h.2⟩
theorem OV.mono {w : World} {B B' : Nat} {e : TypeId} {v : Value} {us : List Value} (h : OV w B e v us) (hB : B' ≤ B) : OV w B' e v us := by
  obtain ⟨⟨h1, h2⟩, h3⟩ := h
  refine ⟨⟨h1, ?_⟩, h3⟩
  rcases h2 with h2 | ⟨g, cap, cur, r1, r2, r3⟩
  · exact .inl h2
  · exact .inr ⟨g, cap, cur, r1, by omega, r3⟩
theorem OV.mono_own {w : World} {B B' : Nat} {e : TypeId} {size n : Nat} {v : Value} {us : List Value} (h : w.ownsRow B e size v n us) (hB : B' ≤ B) : w.ownsRow B' e size v n us := by
  obtain ⟨h1, h2⟩ := h
  refine ⟨h1, ?_⟩
  rcases h2 with h2 | ⟨g, cap, cur, r1, r2, r3⟩
  · exact .inl h2
  · exact .inr ⟨g, cap, cur, r1, by omega, r3⟩
theorem OI.below {w w' : World} {B : Nat} {v : Value} {zs : List Int} (h : OI w B v zs) (hb : Below w.heap.size w w') : OI w' B v zs := OV.below h hb
theorem OV.nil_ (w : World) (B : Nat) (e : TypeId) : OV w B e (.slice none 0 0) [] := ⟨World.ownsRow_nil _ _ _ _, by simp⟩
theorem OI.nil_ (w : World) (B : Nat) : OI w B (.slice none 0 0) [] := OV.nil_ _ _ _
theorem below_drewN {B : Nat} {a w : World} (h : Below B a w) (n : Nat) : Below B a (w.drewN n) := ⟨h.os, h.tape, h.output, h.size, h.block⟩
theorem int_info : (Tryz.prog.info? 3).map (fun i => (i.zero, i.size, i.bytes)) = some (some (.int .i64 0), 1, 8) := by kernel_rfl
/-- A new block of values reads as them. -/
theorem RV.lit (w : World) (us : Array Value) (e : TypeId) (n : Nat) (hn : us.size = n) (hb : n ≤ 17592186044415) : RV (w.alloc (.cells us e)) (.slice (some ⟨w.heap.size, 0, none⟩) n n) us.toList := by
  have hn' : us.toList.length = n := by simpa using hn
  refine ⟨some ⟨w.heap.size, 0, none⟩, n, by rw [hn'], by rw [hn']; omega, by rw [hn']; omega, fun k hk => ⟨_, rfl, by simp, ?_⟩⟩
  rw [hn'] at hk
  have : ((⟨w.heap.size, 0, none⟩ : Addr).add k) = ⟨w.heap.size, k, none⟩ := by
    unfold Addr.add; split
    · next h => rw [h]
    · simp
  rw [this, cell_of_row (w.alloc (.cells us e)) w.heap.size k us e (0, 0) (heap_alloc_new w _)]
  simp
theorem below_alloc (w : World) (o : Obj) : Below w.heap.size w (w.alloc o) := (Below.refl _ _).alloc (Nat.le_refl _) o
def InB (k : Int) : Bool := decide (-1048576 ≤ k) && decide (k ≤ 1048576)
end Go.Proofs.YtgcnijmmjlfabaaGreatDoor

namespace Go.Proofs.YtgcnijmmjlfabaaGreatDoor
open Go.RowKit

section
variable {P : Program} (w : World)
theorem run_appendV (t ty e : TypeId) (i : TypeInfo) (z : Value) (bytes : Nat) (ht : P.underlying t = some (.slice e)) (hi : P.info? e = some i) (hz : i.zero = some z)
    (hsize : i.size = 1) (hby : i.bytes = bytes) (hzs : z.cells.size = 1) (B : Nat) (v : Value) (us : List Value) (hown : OV w B e v us) (vx : Value) (news : List Value) (hr : RV w vx news)
    (h1 : ∀ u ∈ news, u.oneCell' = true) (hb1 : us.length + news.length ≤ 17592186044415) (hb2 : (us.length + news.length) * bytes ≤ 140737488355328) (hB : B ≤ w.heap.size) :
    ∃ v' w', (Builtin.append_ #[t, t] ty #[v, vx]).run P w = .ok v' w' ∧ OV w' B e v' (us ++ news) ∧ w.grownBy w' v.ownBlock ∧ (v'.ownBlock = v.ownBlock ∨ v'.ownBlock = some w.heap.size) := by
  obtain ⟨A, c, rfl, _, _, hc⟩ := hr
  rcases A with _ | ad
  · have hn : news = [] := by
      rcases Nat.eq_zero_or_pos news.length with h0 | h0
      · exact List.eq_nil_of_length_eq_zero h0
      · obtain ⟨_, h, _⟩ := hc 0 h0; cases h
    subst hn
    refine ⟨v, w, ?_, by simpa using hown, World.grownBy.refl w _, .inl rfl⟩
    rcases hown.1.2 with ⟨rfl, _⟩ | ⟨g, cap, cur, rfl, _, _, hnc, _⟩
    · simp [Builtin.append_, run_underlying ht, sizeOf, typeInfo, hi, Builtin.lenOf, Builtin.firstCells]
    · simp [Builtin.append_, run_underlying ht, sizeOf, typeInfo, hi, Builtin.lenOf, Builtin.firstCells, hnc, storeCells]
  · obtain ⟨v', w', hrun, h2, h3, _, h5⟩ := run_append_own_at (P := P) w B t ty e i z 1 bytes ht hi hz hsize hby hzs (by omega) v us.length us hown.1 ad news.length c news (by simp)
      (fun j u hu => by
        obtain ⟨hj, rfl⟩ := List.getElem?_eq_some_iff.1 hu
        obtain ⟨ad', he, _, hcc⟩ := hc j hj
        obtain rfl := Option.some.inj he
        exact hcc.trans hu) h1 (by unfold maxLen; omega) hb2 hB
    exact ⟨v', w', hrun, ⟨by simpa using h2, by simpa using hb1⟩, h3, h5⟩

theorem wpList_appendV {ops : Array Oper} {rest : List Oper} {o : Oper} {a : Act} {Q : Exit → Act → World → Prop} (hgd : o.guard = none) (s x : Operand) (t : TypeId)
    (ho : o.op = .call { callee := .builtin .append, args := #[s, x], argTypes := #[t, t] })
    (e : TypeId) (i : TypeInfo) (z : Value) (bytes : Nat) (ht : P.underlying t = some (.slice e)) (hi : P.info? e = some i) (hz : i.zero = some z)
    (hsize : i.size = 1) (hby : i.bytes = bytes) (hzs : z.cells.size = 1) (B : Nat) (v : Value) (us : List Value) (hs : a.eval s = v) (hown : OV w B e v us)
    (vx : Value) (news : List Value) (hx : a.eval x = vx) (hr : RV w vx news)
    (h1 : ∀ u ∈ news, u.oneCell' = true) (hb1 : us.length + news.length ≤ 17592186044415) (hb2 : (us.length + news.length) * bytes ≤ 140737488355328) (hB : B ≤ w.heap.size)
    (h : ∀ v' w', OV w' B e v' (us ++ news) → w.grownBy w' v.ownBlock → (v'.ownBlock = v.ownBlock ∨ v'.ownBlock = some w.heap.size) → wpList P ops Q rest (a.put o.dst v') w') : wpList P ops Q (o :: rest) a w := by
  refine wpList_plain hgd fun K hK => ?_
  obtain ⟨v', w', hrun, h2, h3, h4⟩ := run_appendV (P := P) w t o.type e i z bytes ht hi hz hsize hby hzs B v us hown vx news hr h1 hb1 hb2 hB
  unfold Oper.wp execOp
  simp only [ho, resolve, invoke, builtin, Sem.run_bind, Sem.run_pure, Result.andThen_ok, List.map_toArray, List.map_cons, List.map_nil, hs, hx, hrun]
  exact hK _ _ (h v' w' h2 h3 h4)
end
/-- An element of an own slice: its cell, and a store into it. -/
theorem OI.at_ {w : World} {B : Nat} {v : Value} {zs : List Int} (h : OI w B v zs) {k : Nat} (hk : k < zs.length) :
    ∃ g cap, v = .slice (some ⟨g, 0, none⟩) zs.length cap ∧ B ≤ g ∧ w.cell? ⟨g, k, none⟩ = some (.int .i64 (zs.getD k 0)) ∧ w.frozen? ⟨g, k, none⟩ = false ∧
      ∀ x : Int, OI (w.setCell ⟨g, k, none⟩ (.int .i64 x)) B (.slice (some ⟨g, 0, none⟩) zs.length cap) (zs.set k x) ∧ w.grownBy (w.setCell ⟨g, k, none⟩ (.int .i64 x)) (some g) := by
  have h' := h
  obtain ⟨h1, h2⟩ := h
  simp only [List.length_map] at h1 h2
  rcases h1.2 with ⟨_, hn⟩ | ⟨g, cap, cur, rfl, hg, hh, hn, hm, hs, ht⟩
  · omega
  · refine ⟨g, cap, rfl, hg, ?_, h1.frozenAt k, fun x => ?_⟩
    · rw [h1.cellAt k (by omega), List.getElem?_map, List.getElem?_eq_getElem hk]
      simp [List.getElem?_eq_getElem hk]
    · have := h1.stored k (.int .i64 x)
      exact ⟨⟨by rw [List.map_set, List.length_set, List.length_map]; exact this.1, by simpa using h2⟩, this.2⟩
theorem OI.at' {w : World} {B g n cap : Nat} {zs : List Int} (h : OI w B (.slice (some ⟨g, 0, none⟩) n cap) zs) {k : Nat} (hk : k < zs.length) :
    n = zs.length ∧ B ≤ g ∧ w.cell? ⟨g, k, none⟩ = some (.int .i64 (zs.getD k 0)) ∧ w.frozen? ⟨g, k, none⟩ = false ∧
      ∀ x : Int, OI (w.setCell ⟨g, k, none⟩ (.int .i64 x)) B (.slice (some ⟨g, 0, none⟩) n cap) (zs.set k x) ∧ w.grownBy (w.setCell ⟨g, k, none⟩ (.int .i64 x)) (some g) := by
  obtain ⟨g', cap', hv, h1, h2, h3, h4⟩ := h.at_ hk
  simp only [Value.slice.injEq, Option.some.injEq, Addr.mk.injEq, and_true] at hv
  obtain ⟨rfl, rfl, rfl⟩ := hv
  exact ⟨rfl, h1, h2, h3, h4⟩
theorem ints_one (zs : List Int) : ∀ u ∈ zs.map (Value.int .i64), u.oneCell' = true := by
  intro u hu; obtain ⟨z, _, rfl⟩ := List.mem_map.1 hu; rfl
/-- What the caller may say behind an append onto its own slice. -/
theorem below_own {w w0 w' : World} {B : Nat} {v : Value} {e : TypeId} {us : List Value} (hb : Below B w0 w) (hB : B ≤ w.heap.size) (h : OV w B e v us) (hg : w.grownBy w' v.ownBlock) : Below B w0 w' :=
  hb.grown hg hB fun k hk => (h.1.lt k hk).1
end Go.Proofs.YtgcnijmmjlfabaaGreatDoor

namespace Go.Proofs.YtgcnijmmjlfabaaGreatDoor

def sumN : Nat → (Nat → Int) → Int
  | 0, _ => 0
  | n + 1, f => sumN n f + f n
theorem sumN_congr {n : Nat} {f g : Nat → Int} (h : ∀ i, i < n → f i = g i) : sumN n f = sumN n g := by
  induction n with
  | zero => rfl
  | succ n ih => simp only [sumN]; rw [ih fun i hi => h i (by omega), h n (by omega)]
theorem sumN_add (n : Nat) (f g : Nat → Int) : sumN n (fun i => f i + g i) = sumN n f + sumN n g := by
  induction n with
  | zero => rfl
  | succ n ih => simp only [sumN, ih]; omega
theorem sumN_mul (n : Nat) (a : Int) (f : Nat → Int) : sumN n (fun i => a * f i) = a * sumN n f := by
  induction n with
  | zero => simp [sumN]
  | succ n ih => simp only [sumN, ih, Int.mul_add]
theorem sumN_zero {n : Nat} {f : Nat → Int} (h : ∀ i, i < n → f i = 0) : sumN n f = 0 := by
  induction n with
  | zero => rfl
  | succ n ih => simp only [sumN]; rw [ih fun i hi => h i (by omega), h n (by omega)]; rfl
theorem sumN_one {n c : Nat} {f : Nat → Int} (hc : c < n) (h : ∀ i, i < n → i ≠ c → f i = 0) : sumN n f = f c := by
  induction n with
  | zero => omega
  | succ n ih =>
    simp only [sumN]
    by_cases e : c = n
    · rw [sumN_zero fun i hi => h i (by omega) (by omega), e]; omega
    · rw [ih (by omega) fun i hi hne => h i (by omega) hne, h n (by omega) (by omega)]; omega
/-- The columns but k. -/
def skip (k j : Nat) : Nat := if j < k then j else j + 1
end Go.Proofs.YtgcnijmmjlfabaaGreatDoor

namespace Go.Proofs.YtgcnijmmjlfabaaGreatDoor

def lap (n : Nat) (w : Nat → Nat → Int) (s : Nat → Int) (v : Nat) : Int := sumN n fun u => w v u * (s v - s u)
/-- Every proper part of the vertices has an edge to the others. -/
def Conn (n : Nat) (w : Nat → Nat → Int) : Prop := ∀ A : Nat → Bool, (∃ v, v < n ∧ A v = true) → (∃ v, v < n ∧ A v = false) → ∃ v u, v < n ∧ u < n ∧ A v = true ∧ A u = false ∧ 0 < w v u
end Go.Proofs.YtgcnijmmjlfabaaGreatDoor

namespace Go.Proofs.YtgcnijmmjlfabaaGreatDoor

def lapT (n : Nat) (w : Nat → Nat → Int) (i j : Nat) : Int := (if i = j then sumN n (w i) else 0) - w i j
theorem lap_table {n : Nat} {w : Nat → Nat → Int} {s : Nat → Int} {v : Nat} (hv : v < n) : lap n w s v = sumN n fun u => lapT n w v u * s u := by
  have e1 : (sumN n fun u => lapT n w v u * s u) = (sumN n fun u => (if v = u then sumN n (w v) else 0) * s u) + sumN n fun u => -(w v u * s u) := by
    rw [← sumN_add]
    exact sumN_congr fun u _ => by unfold lapT; grind
  have e2 : (sumN n fun u => (if v = u then sumN n (w v) else 0) * s u) = s v * sumN n (w v) := by
    rw [sumN_one (c := v) hv]
    · rw [if_pos rfl, Int.mul_comm]
    · intro u _ hne; rw [if_neg (fun e => hne e.symm)]; simp
  rw [e1, e2, ← sumN_mul, ← sumN_add]
  exact sumN_congr fun u _ => by grind
end Go.Proofs.YtgcnijmmjlfabaaGreatDoor

namespace Go.Proofs.YtgcnijmmjlfabaaGreatDoor

def countN : Nat → (Nat → Bool) → Nat
  | 0, _ => 0
  | n + 1, p => countN n p + if p n then 1 else 0
theorem countN_le (n : Nat) (p : Nat → Bool) : countN n p ≤ n := by
  induction n with
  | zero => exact Nat.le_refl _
  | succ n ih => simp only [countN]; split <;> omega
theorem countN_mono {n : Nat} {p p' : Nat → Bool} (h : ∀ v, v < n → p v = true → p' v = true) : countN n p ≤ countN n p' := by
  induction n with
  | zero => exact Nat.le_refl _
  | succ n ih =>
    have := ih fun v hv => h v (by omega)
    have h2 := h n (by omega)
    simp only [countN]
    cases hp : p n with
    | false => simp; omega
    | true => rw [h2 hp]; simp; omega
theorem countN_lt {n : Nat} {p p' : Nat → Bool} (h : ∀ v, v < n → p v = true → p' v = true) {x : Nat} (hx : x < n) (h1 : p x = false) (h2 : p' x = true) : countN n p < countN n p' := by
  induction n with
  | zero => omega
  | succ n ih =>
    simp only [countN]
    by_cases e : x = n
    · subst e
      have := countN_mono (n := x) fun v hv => h v (by omega)
      rw [h1, h2]; simp; omega
    · have := ih (fun v hv => h v (by omega)) (by omega)
      have h3 := h n (by omega)
      cases hp : p n with
      | false => simp; omega
      | true => rw [h3 hp]; simp; omega
theorem countN_all {n : Nat} {p : Nat → Bool} (h : n ≤ countN n p) : ∀ v, v < n → p v = true := by
  induction n with
  | zero => intro v hv; omega
  | succ n ih =>
    have hl := countN_le n p
    simp only [countN] at h
    cases hp : p n with
    | false => rw [hp] at h; simp at h; omega
    | true =>
      rw [hp] at h; simp at h
      intro v hv
      by_cases e : v = n
      · rw [e]; exact hp
      · exact ih h v (by omega)
end Go.Proofs.YtgcnijmmjlfabaaGreatDoor

namespace Go.Proofs.YtgcnijmmjlfabaaGreatDoor

/-- An edge: both ends, and how many. -/
abbrev Tri := Int × Int × Int
def okE (n : Int) (last : Int × Int) (t : Tri) : Int :=
  if t.1 < 0 ∨ n ≤ t.1 ∨ t.2.1 < 0 ∨ n ≤ t.2.1 ∨ t.2.2 < 1 ∨ 50 < t.2.2 then 2 else if t.2.1 < t.1 ∨ t.1 < last.1 ∨ (t.1 = last.1 ∧ t.2.1 ≤ last.2) then 9 else 0
def gcheckL (n : Int) : Int × Int → List Tri → Int
  | _, [] => 0
  | last, t :: r => if okE n last t ≠ 0 then okE n last t else gcheckL n (t.1, t.2.1) r
def gcheckE (n : Int) (es : List Tri) : Int := if n < 1 ∨ 12 < n then 2 else gcheckL n (-1, -1) es
def LexLt (s t : Tri) : Prop := s.1 < t.1 ∨ (s.1 = t.1 ∧ s.2.1 < t.2.1)
/-- Right edges of n vertices. -/
structure Edges (n : Nat) (es : List Tri) : Prop where
  lo : ∀ t ∈ es, 0 ≤ t.1 ∧ t.1 ≤ t.2.1 ∧ t.2.1 < n
  mult : ∀ t ∈ es, 1 ≤ t.2.2 ∧ t.2.2 ≤ 50
  ord : es.Pairwise LexLt
theorem okE_zero {n : Int} {last : Int × Int} {t : Tri} (h : okE n last t = 0) : 0 ≤ t.1 ∧ t.1 ≤ t.2.1 ∧ t.2.1 < n ∧ 1 ≤ t.2.2 ∧ t.2.2 ≤ 50 ∧ (last.1 < t.1 ∨ (last.1 = t.1 ∧ last.2 < t.2.1)) := by
  unfold okE at h
  by_cases a : t.1 < 0 ∨ n ≤ t.1 ∨ t.2.1 < 0 ∨ n ≤ t.2.1 ∨ t.2.2 < 1 ∨ 50 < t.2.2
  · rw [if_pos a] at h; cases h
  · rw [if_neg a] at h
    by_cases b : t.2.1 < t.1 ∨ t.1 < last.1 ∨ (t.1 = last.1 ∧ t.2.1 ≤ last.2)
    · rw [if_pos b] at h; cases h
    · omega
theorem gcheckL_zero {n : Nat} {es : List Tri} {last : Int × Int} (h : gcheckL n last es = 0) : Edges n es ∧ ∀ t ∈ es, last.1 < t.1 ∨ (last.1 = t.1 ∧ last.2 < t.2.1) := by
  induction es generalizing last with
  | nil => exact ⟨⟨by simp, by simp, List.Pairwise.nil⟩, by simp⟩
  | cons t r ih =>
    unfold gcheckL at h
    by_cases e : okE n last t = 0
    · simp only [e, ne_eq, not_true_eq_false, if_false] at h
      obtain ⟨h1, h2, h3, h4, h5, h6⟩ := okE_zero e
      obtain ⟨g, gl⟩ := ih h
      refine ⟨⟨?_, ?_, List.Pairwise.cons (fun s hs => gl s hs) g.ord⟩, ?_⟩
      · intro s hs
        rcases List.mem_cons.1 hs with rfl | hs
        · exact ⟨h1, h2, h3⟩
        · exact g.lo s hs
      · intro s hs
        rcases List.mem_cons.1 hs with rfl | hs
        · exact ⟨h4, h5⟩
        · exact g.mult s hs
      · intro s hs
        rcases List.mem_cons.1 hs with rfl | hs
        · exact h6
        · have := gl s hs; simp only at this; omega
    · simp [e] at h
theorem gcheckE_zero {n : Int} {es : List Tri} (h : gcheckE n es = 0) : ∃ m : Nat, n = m ∧ 1 ≤ m ∧ m ≤ 12 ∧ Edges m es := by
  unfold gcheckE at h
  by_cases a : n < 1 ∨ 12 < n
  · rw [if_pos a] at h; cases h
  · rw [if_neg a] at h
    obtain ⟨m, rfl⟩ := Int.eq_ofNat_of_zero_le (show 0 ≤ n by omega)
    exact ⟨m, rfl, by omega, by omega, (gcheckL_zero h).1⟩

/-- What an edge adds to the weight of two vertices. -/
def ew (t : Tri) (v u : Nat) : Int := if t.1 ≠ t.2.1 ∧ ((t.1 = v ∧ t.2.1 = u) ∨ (t.1 = u ∧ t.2.1 = v)) then t.2.2 else 0
def wgt : List Tri → Nat → Nat → Int
  | [], _, _ => 0
  | t :: r, v, u => ew t v u + wgt r v u
theorem ew_sym (t : Tri) (v u : Nat) : ew t v u = ew t u v := by
  unfold ew
  split <;> split <;> first | rfl | (exfalso; omega)
theorem wgt_sym (es : List Tri) (v u : Nat) : wgt es v u = wgt es u v := by
  induction es with
  | nil => rfl
  | cons t r ih => simp only [wgt, ih, ew_sym t v u]
theorem ew_self (t : Tri) (v : Nat) : ew t v v = 0 := by
  unfold ew
  rw [if_neg]
  rintro ⟨h1, h2⟩
  rcases h2 with h2 | h2 <;> exact h1 (h2.1.trans h2.2.symm)
theorem wgt_self (es : List Tri) (v : Nat) : wgt es v v = 0 := by
  induction es with
  | nil => rfl
  | cons t r ih => simp only [wgt, ih, ew_self]; rfl
theorem ew_nonneg {t : Tri} (h : 0 ≤ t.2.2) (v u : Nat) : 0 ≤ ew t v u := by unfold ew; split <;> omega
theorem wgt_nonneg {es : List Tri} (h : ∀ t ∈ es, 0 ≤ t.2.2) (v u : Nat) : 0 ≤ wgt es v u := by
  induction es with
  | nil => exact Int.le_refl _
  | cons t r ih =>
    have h1 := ew_nonneg (h t (List.mem_cons_self ..)) v u
    have h2 := ih fun s hs => h s (List.mem_cons_of_mem _ hs)
    simp only [wgt]; omega
theorem wgt_pos_mem {es : List Tri} {v u : Nat} (h : 0 < wgt es v u) : ∃ t ∈ es, t.1 ≠ t.2.1 ∧ ((t.1 = v ∧ t.2.1 = u) ∨ (t.1 = u ∧ t.2.1 = v)) := by
  induction es with
  | nil => simp [wgt] at h
  | cons t r ih =>
    by_cases a : t.1 ≠ t.2.1 ∧ ((t.1 = v ∧ t.2.1 = u) ∨ (t.1 = u ∧ t.2.1 = v))
    · exact ⟨t, List.mem_cons_self .., a⟩
    · simp only [wgt, ew, if_neg a] at h
      obtain ⟨s, hs, hh⟩ := ih (by omega)
      exact ⟨s, List.mem_cons_of_mem _ hs, hh⟩
theorem wgt_mem_le {es : List Tri} (h : ∀ t ∈ es, 0 ≤ t.2.2) {t : Tri} (ht : t ∈ es) {v u : Nat} (he : t.1 ≠ t.2.1 ∧ ((t.1 = v ∧ t.2.1 = u) ∨ (t.1 = u ∧ t.2.1 = v))) : t.2.2 ≤ wgt es v u := by
  induction es with
  | nil => cases ht
  | cons s r ih =>
    have h1 := ew_nonneg (h s (List.mem_cons_self ..)) v u
    have h2 := wgt_nonneg (fun s hs => h s (List.mem_cons_of_mem _ hs)) v u (es := r)
    rcases List.mem_cons.1 ht with rfl | ht
    · simp only [wgt, ew, if_pos he]; omega
    · have := ih (fun s hs => h s (List.mem_cons_of_mem _ hs)) ht
      simp only [wgt]; omega

/-- How many single edges. -/
def multS (es : List Tri) : Int := (es.map fun t => t.2.2).sum
theorem multS_cons (t : Tri) (r : List Tri) : multS (t :: r) = t.2.2 + multS r := by simp [multS]
def Ends (n : Nat) (es : List Tri) : Prop := ∀ t ∈ es, 0 ≤ t.1 ∧ t.1 < n ∧ 0 ≤ t.2.1 ∧ t.2.1 < n
theorem Edges.ends {n : Nat} {es : List Tri} (h : Edges n es) : Ends n es := fun t ht => by have := h.lo t ht; omega
theorem Ends.tail {n : Nat} {t : Tri} {es : List Tri} (h : Ends n (t :: es)) : Ends n es := fun s hs => h s (List.mem_cons_of_mem _ hs)
/-- A sum over the neighbours along one edge. -/
theorem sum_ew {n : Nat} {t : Tri} (h : 0 ≤ t.1 ∧ t.1 < n ∧ 0 ≤ t.2.1 ∧ t.2.1 < n) (f : Nat → Int) (v : Nat) :
    (sumN n fun u => ew t v u * f u) = if t.1 = t.2.1 then 0 else if t.1 = v then t.2.2 * f t.2.1.toNat else if t.2.1 = v then t.2.2 * f t.1.toNat else 0 := by
  by_cases e : t.1 = t.2.1
  · rw [if_pos e]
    exact sumN_zero fun u _ => by unfold ew; rw [if_neg fun hh => hh.1 e]; simp
  · rw [if_neg e]
    by_cases a : t.1 = v
    · rw [if_pos a, sumN_one (c := t.2.1.toNat) (by omega)]
      · unfold ew; rw [if_pos ⟨e, .inl ⟨a, by omega⟩⟩]
      · intro u hu hne
        unfold ew
        rw [if_neg]
        · simp
        · rintro ⟨-, hh⟩
          rcases hh with hh | hh <;> omega
    · rw [if_neg a]
      by_cases b : t.2.1 = v
      · rw [if_pos b, sumN_one (c := t.1.toNat) (by omega)]
        · unfold ew; rw [if_pos ⟨e, .inr ⟨by omega, b⟩⟩]
        · intro u hu hne
          unfold ew
          rw [if_neg]
          · simp
          · rintro ⟨-, hh⟩
            rcases hh with hh | hh <;> omega
      · rw [if_neg b]
        exact sumN_zero fun u _ => by
          unfold ew
          rw [if_neg]
          · simp
          · rintro ⟨-, hh⟩
            rcases hh with hh | hh <;> omega
end Go.Proofs.YtgcnijmmjlfabaaGreatDoor

namespace Go.Proofs.YtgcnijmmjlfabaaGreatDoor

/-- The vertex that stands for a part. -/
def rootF (f : List Nat) (v : Nat) : Nat := if _h : f.getD v v < v then rootF f (f.getD v v) else v
termination_by v
/-- A forest of 12 vertices: nobody has a greater one. -/
def Fo (f : List Nat) : Prop := f.length = 12 ∧ ∀ v, v < 12 → f.getD v v ≤ v
theorem root_unf (f : List Nat) (v : Nat) : rootF f v = if f.getD v v < v then rootF f (f.getD v v) else v := by
  rw [rootF]; split <;> rfl
theorem root_le (f : List Nat) (v : Nat) : rootF f v ≤ v := by
  induction v using Nat.strongRecOn with
  | _ v ih =>
    rw [root_unf]
    split
    · next h => have := ih _ h; omega
    · omega
theorem root_fix {f : List Nat} (h : Fo f) {v : Nat} (hv : v < 12) : f.getD (rootF f v) (rootF f v) = rootF f v := by
  induction v using Nat.strongRecOn with
  | _ v ih =>
    rw [root_unf]
    split
    · next hl => exact ih _ hl (by omega)
    · have := h.2 v hv; omega
theorem root_of_fix {f : List Nat} {v : Nat} (h : f.getD v v = v) : rootF f v = v := by
  rw [root_unf, if_neg (by omega)]
theorem root_step {f : List Nat} (h : Fo f) {v : Nat} (hv : v < 12) : rootF f (f.getD v v) = rootF f v := by
  have := h.2 v hv
  rcases Nat.lt_or_ge (f.getD v v) v with c | c
  · conv => rhs; rw [root_unf, if_pos c]
  · rw [show f.getD v v = v by omega]
theorem getD_set_nat (l : List Nat) (i x j d : Nat) (hi : i < l.length) : (l.set i x).getD j d = if i = j then x else l.getD j d := by
  rw [List.getD_eq_getElem?_getD, List.getElem?_set]
  by_cases e : i = j
  · subst e; rw [if_pos rfl, if_pos rfl, if_pos hi]; rfl
  · rw [if_neg e, if_neg e, List.getD_eq_getElem?_getD]
def joinF (f : List Nat) (a b : Nat) : List Nat := f.set (max (rootF f a) (rootF f b)) (min (rootF f a) (rootF f b))
theorem joinF_fo {f : List Nat} (h : Fo f) {a b : Nat} (ha : a < 12) (hb : b < 12) : Fo (joinF f a b) := by
  have h1 := root_le f a
  have h2 := root_le f b
  refine ⟨by simp [joinF, h.1], fun v hv => ?_⟩
  unfold joinF
  rw [getD_set_nat _ _ _ _ _ (by rw [h.1]; omega)]
  split
  · omega
  · exact h.2 v hv
theorem joinF_root {f : List Nat} (h : Fo f) {a b : Nat} (ha : a < 12) (hb : b < 12) {v : Nat} (hv : v < 12) :
    rootF (joinF f a b) v = if rootF f v = max (rootF f a) (rootF f b) then min (rootF f a) (rootF f b) else rootF f v := by
  have h1 := root_le f a
  have h2 := root_le f b
  have fa := root_fix h ha
  have fb := root_fix h hb
  have hmn : rootF (joinF f a b) (min (rootF f a) (rootF f b)) = min (rootF f a) (rootF f b) := by
    apply root_of_fix
    unfold joinF
    rw [getD_set_nat _ _ _ _ _ (by rw [h.1]; omega)]
    split
    · rfl
    · rcases Nat.le_total (rootF f a) (rootF f b) with c | c
      · rw [Nat.min_eq_left c]; exact fa
      · rw [Nat.min_eq_right c]; exact fb
  induction v using Nat.strongRecOn with
  | _ v ih =>
    have hj : (joinF f a b).getD v v = if max (rootF f a) (rootF f b) = v then min (rootF f a) (rootF f b) else f.getD v v := by
      unfold joinF
      exact getD_set_nat _ _ _ _ _ (by rw [h.1]; omega)
    by_cases e : max (rootF f a) (rootF f b) = v
    · have hr : rootF f v = v := by
        apply root_of_fix
        rw [← e]
        rcases Nat.le_total (rootF f a) (rootF f b) with c | c
        · rw [Nat.max_eq_right c]; exact fb
        · rw [Nat.max_eq_left c]; exact fa
      rw [hr, if_pos e.symm, root_unf, hj, if_pos e]
      split
      · exact hmn
      · omega
    · rw [root_unf, hj, if_neg e]
      by_cases c : f.getD v v < v
      · rw [if_pos c, ih _ c (by omega), root_step h hv]
      · have hr : rootF f v = v := by rw [root_unf, if_neg c]
        rw [if_neg c, hr, if_neg fun hh => e hh.symm]
def grownF : List Nat := List.range 12
theorem grown_get (v : Nat) (hv : v < 12) : grownF.getD v v = v := by
  unfold grownF; rw [List.getD_eq_getElem?_getD, List.getElem?_range hv]; rfl
theorem grown_fo : Fo grownF := ⟨by simp [grownF], fun v hv => by rw [grown_get v hv]; exact Nat.le_refl _⟩
def joinAll (f : List Nat) (es : List Tri) : List Nat := es.foldl (fun g t => joinF g t.1.toNat t.2.1.toNat) f
/-- What a forest says of the edges that were joined. -/
structure Says (n : Nat) (es : List Tri) (f : List Nat) : Prop where
  fo : Fo f
  sound : ∀ A : Nat → Bool, (∀ t ∈ es, A t.1.toNat = A t.2.1.toNat) → ∀ v, v < 12 → A (rootF f v) = A v
  whole : ∀ t ∈ es, rootF f t.1.toNat = rootF f t.2.1.toNat
theorem says_nil (n : Nat) : Says n [] grownF := ⟨grown_fo, fun A _ v hv => by rw [root_of_fix (grown_get v hv)], by simp⟩
theorem Says.snoc {n : Nat} {es : List Tri} {f : List Nat} (h : Says n es f) {t : Tri} (ha : t.1.toNat < 12) (hb : t.2.1.toNat < 12) : Says n (es ++ [t]) (joinF f t.1.toNat t.2.1.toNat) := by
  refine ⟨joinF_fo h.fo ha hb, fun A hA v hv => ?_, fun s hs => ?_⟩
  · have hA1 := h.sound A fun s hs => hA s (List.mem_append_left _ hs)
    have hA2 := hA t (by simp)
    rw [joinF_root h.fo ha hb hv]
    split
    · next e =>
      have e1 := hA1 v hv
      have e2 := hA1 _ ha
      have e3 := hA1 _ hb
      rw [e] at e1
      rcases Nat.le_total (rootF f t.1.toNat) (rootF f t.2.1.toNat) with c | c
      · rw [Nat.max_eq_right c] at e1; rw [Nat.min_eq_left c, ← e1, e2, e3, hA2]
      · rw [Nat.max_eq_left c] at e1; rw [Nat.min_eq_right c, ← e1, e2, e3, hA2]
    · exact hA1 v hv
  · rcases List.mem_append.1 hs with hs | hs
    · have hw := h.whole s hs
      rcases Nat.lt_or_ge s.1.toNat 12 with c1 | c1
      · rcases Nat.lt_or_ge s.2.1.toNat 12 with c2 | c2
        · rw [joinF_root h.fo ha hb c1, joinF_root h.fo ha hb c2, hw]
        · exfalso
          have e : rootF f s.2.1.toNat = s.2.1.toNat := by
            rw [root_unf, if_neg]
            rw [List.getD_eq_getElem?_getD, List.getElem?_eq_none (by rw [h.fo.1]; exact c2)]
            simp
          have := root_le f s.1.toNat
          omega
      · rcases Nat.lt_or_ge s.2.1.toNat 12 with c2 | c2
        · exfalso
          have e : rootF f s.1.toNat = s.1.toNat := by
            rw [root_unf, if_neg]
            rw [List.getD_eq_getElem?_getD, List.getElem?_eq_none (by rw [h.fo.1]; exact c1)]
            simp
          have := root_le f s.2.1.toNat
          omega
        · have e : ∀ (g : List Nat) (v : Nat), g.length = 12 → 12 ≤ v → rootF g v = v := fun g v hg hv => by
            rw [root_unf, if_neg]
            rw [List.getD_eq_getElem?_getD, List.getElem?_eq_none (by omega)]
            simp
          rw [e f _ h.fo.1 c1, e f _ h.fo.1 c2] at hw
          rw [hw]
    · simp only [List.mem_singleton] at hs
      subst hs
      rw [joinF_root h.fo ha hb ha, joinF_root h.fo ha hb hb]
      by_cases c1 : rootF f s.1.toNat = max (rootF f s.1.toNat) (rootF f s.2.1.toNat) <;> by_cases c2 : rootF f s.2.1.toNat = max (rootF f s.1.toNat) (rootF f s.2.1.toNat)
      · rw [if_pos c1, if_pos c2]
      · rw [if_pos c1, if_neg c2]; omega
      · rw [if_neg c1, if_pos c2]; omega
      · exfalso; omega
theorem joinAll_says {n : Nat} (hn : n ≤ 12) (es pre : List Tri) (f : List Nat) (h : Says n pre f) (he : Ends n es) : Says n (pre ++ es) (joinAll f es) := by
  induction es generalizing pre f with
  | nil => simpa [joinAll] using h
  | cons t r ih =>
    have ht := he t (List.mem_cons_self ..)
    have := ih (pre ++ [t]) _ (h.snoc (t := t) (by omega) (by omega)) he.tail
    simpa [joinAll] using this
/-- How many parts. -/
def partsN (n : Nat) (f : List Nat) : Nat := countN n fun v => decide (f.getD v v = v)
theorem countN_pos {n : Nat} {p : Nat → Bool} {x : Nat} (hx : x < n) (h : p x = true) : 1 ≤ countN n p := by
  have := countN_lt (p := fun _ => false) (p' := p) (fun _ _ e => by cases e) hx rfl h
  omega
theorem countN_two {n : Nat} {p : Nat → Bool} {x y : Nat} (hx : x < n) (hy : y < n) (hne : x ≠ y) (h : p x = true) (h' : p y = true) : 2 ≤ countN n p := by
  have h1 := countN_pos (p := fun v => decide (v = x)) hx (by simp)
  have := countN_lt (n := n) (p := fun v => decide (v = x)) (p' := p) (fun v _ e => by simp at e; subst e; exact h) hy (by simp; exact fun e => hne e.symm) h'
  omega
theorem countN_le_one {n : Nat} {p : Nat → Bool} {x : Nat} (h : ∀ v, v < n → p v = true → v = x) : countN n p ≤ 1 := by
  induction n with
  | zero => exact Nat.zero_le _
  | succ n ih =>
    simp only [countN]
    by_cases hp : p n = true
    · have hx := h n (by omega) hp
      have : countN n p ≤ countN n fun _ => false := countN_mono fun v hv hpv => by
        have := h v (by omega) hpv; omega
      have e : ∀ m, countN m (fun _ => false) = 0 := fun m => by induction m with | zero => rfl | succ m ih => simp [countN, ih]
      rw [e] at this
      rw [if_pos hp]; omega
    · rw [if_neg hp]; exact ih fun v hv => h v (by omega)
theorem conn_parts {n : Nat} {es : List Tri} {f : List Nat} (hn1 : 1 ≤ n) (hn : n ≤ 12) (he : Ends n es) (hp : ∀ t ∈ es, 1 ≤ t.2.2) (h : Says n es f) : Conn n (wgt es) ↔ partsN n f = 1 := by
  have h0 : f.getD 0 0 = 0 := by have := h.fo.2 0 (by omega); omega
  have hpos : ∀ t ∈ es, 0 ≤ t.2.2 := fun t ht => by have := hp t ht; omega
  unfold partsN
  constructor
  · intro hc
    have hge := countN_pos (n := n) (p := fun v => decide (f.getD v v = v)) (x := 0) (by omega) (by simpa using h0)
    have hle : countN n (fun v => decide (f.getD v v = v)) ≤ 1 := countN_le_one (x := 0) fun r hr hpr => by
      simp only [decide_eq_true_eq] at hpr
      apply Classical.byContradiction
      intro hne
      obtain ⟨v, u, hv, hu, ha, hb, hw⟩ := hc (fun v => decide (rootF f v = r)) ⟨r, hr, by simp [root_of_fix hpr]⟩ ⟨0, by omega, by simp only [decide_eq_false_iff_not]; rw [root_of_fix h0]; omega⟩
      simp only [decide_eq_true_eq, decide_eq_false_iff_not] at ha hb
      obtain ⟨t, ht, hne', hh⟩ := wgt_pos_mem hw
      have hw' := h.whole t ht
      rcases hh with ⟨e1, e2⟩ | ⟨e1, e2⟩
      · rw [e1, e2] at hw'; simp only [Int.toNat_natCast] at hw'; exact hb (hw' ▸ ha)
      · rw [e1, e2] at hw'; simp only [Int.toNat_natCast] at hw'; exact hb (hw'.trans ha)
    omega
  · intro h1 A hA hB
    apply Classical.byContradiction
    intro hno
    have hroot : ∀ v, v < n → rootF f v = 0 := fun v hv => by
      apply Classical.byContradiction
      intro hne
      have := root_le f v
      have := countN_two (n := n) (p := fun v => decide (f.getD v v = v)) (x := rootF f v) (y := 0) (by omega) (by omega) hne (by simpa using root_fix h.fo (by omega)) (by simpa using h0)
      omega
    have hcl : ∀ t ∈ es, A t.1.toNat = A t.2.1.toNat := fun t ht => by
      by_cases e : t.1 = t.2.1
      · rw [e]
      · have hb := he t ht
        have h1' := wgt_mem_le hpos ht (v := t.1.toNat) (u := t.2.1.toNat) ⟨e, .inl ⟨by omega, by omega⟩⟩
        have h2' := wgt_mem_le hpos ht (v := t.2.1.toNat) (u := t.1.toNat) ⟨e, .inr ⟨by omega, by omega⟩⟩
        have := hp t ht
        cases c1 : A t.1.toNat <;> cases c2 : A t.2.1.toNat
        · rfl
        · exact absurd ⟨_, _, by omega, by omega, c2, c1, by omega⟩ hno
        · exact absurd ⟨_, _, by omega, by omega, c1, c2, by omega⟩ hno
        · rfl
    have hs := h.sound A hcl
    obtain ⟨v, hv, ha⟩ := hA
    obtain ⟨u, hu, hb⟩ := hB
    have e1 := hs v (by omega)
    have e2 := hs u (by omega)
    rw [hroot v hv] at e1
    rw [hroot u hu] at e2
    rw [ha] at e1; rw [hb] at e2
    rw [e1] at e2; cases e2
end Go.Proofs.YtgcnijmmjlfabaaGreatDoor

namespace Go.Proofs.YtgcnijmmjlfabaaGreatDoor
open Go.RowKit

/-- The slice value v reads as edges: both ends and how many. -/
def EV (w : World) (v : Value) (es : List Tri) : Prop := ∃ A c, v = .slice A es.length c ∧ es.length ≤ c ∧ es.length ≤ 17592186044415 ∧
  ∀ k, k < es.length → ∃ ad a b m, A = some ad ∧ ad.block < w.heap.size ∧ Hid (es[k]? = some (a, b, m)) ∧ w.cell? (ad.add (k * 3)) = some (.int .i64 a) ∧ w.cell? ⟨(ad.add (k * 3)).block, (ad.add (k * 3)).off + 1, none⟩ = some (.int .i64 b) ∧ w.cell? ⟨(ad.add (k * 3)).block, (ad.add (k * 3)).off + 2, none⟩ = some (.int .i64 m)
theorem EV.below {w w' : World} {v : Value} {es : List Tri} (h : EV w v es) (hb : Below w.heap.size w w') : EV w' v es := by
  obtain ⟨A, c, h1, h2, h3, h4⟩ := h
  refine ⟨A, c, h1, h2, h3, fun k hk => ?_⟩
  obtain ⟨ad, a, b, m, e, hl, ht, c1, c2, c3⟩ := h4 k hk
  have hs := hb.size
  refine ⟨ad, a, b, m, e, by omega, ht, ?_, ?_, ?_⟩
  · exact (hb.cell (by rw [block_of_add]; exact hl)).trans c1
  · exact (hb.cell (by rw [block_of_add]; exact hl)).trans c2
  · exact (hb.cell (by rw [block_of_add]; exact hl)).trans c3
/-- The cells of the edges, in a later world. -/
theorem tri_cells {w wr : World} {ad : Addr} {k : Nat} {B : Nat} {a b m : Int} (hb : Below B w wr) (hl : ad.block < B)
    (c1 : w.cell? (ad.add (k * 3)) = some (.int .i64 a)) (c2 : w.cell? ⟨(ad.add (k * 3)).block, (ad.add (k * 3)).off + 1, none⟩ = some (.int .i64 b)) (c3 : w.cell? ⟨(ad.add (k * 3)).block, (ad.add (k * 3)).off + 2, none⟩ = some (.int .i64 m)) :
    wr.cell? (ad.add (k * 3)) = some (.int .i64 a) ∧ wr.cell? ⟨(ad.add (k * 3)).block, (ad.add (k * 3)).off + 1, none⟩ = some (.int .i64 b) ∧ wr.cell? ⟨(ad.add (k * 3)).block, (ad.add (k * 3)).off + 2, none⟩ = some (.int .i64 m) :=
  ⟨(hb.cell (by rw [block_of_add]; exact hl)).trans c1, (hb.cell (by rw [block_of_add]; exact hl)).trans c2, (hb.cell (by rw [block_of_add]; exact hl)).trans c3⟩
/-- The value g reads as a graph: a number and its edges. -/
def GV (w : World) (g : Value) (n : Int) (es : List Tri) : Prop := ∃ v, g = .agg #[.int .i64 n, v] ∧ EV w v es
theorem GV.below {w w' : World} {g : Value} {n : Int} {es : List Tri} (h : GV w g n es) (hb : Below w.heap.size w w') : GV w' g n es := by
  obtain ⟨v, e, h⟩ := h
  exact ⟨v, e, h.below hb⟩
theorem GV.open_ {w : World} {g : Value} {n : Int} {es : List Tri} (h : GV w g n es) : ∃ A c, g = .agg #[.int .i64 n, .slice A es.length c] ∧ es.length ≤ c ∧ es.length ≤ 17592186044415 ∧
    ∀ k, k < es.length → ∃ ad a b m, A = some ad ∧ ad.block < w.heap.size ∧ Hid (es[k]? = some (a, b, m)) ∧ w.cell? (ad.add (k * 3)) = some (.int .i64 a) ∧ w.cell? ⟨(ad.add (k * 3)).block, (ad.add (k * 3)).off + 1, none⟩ = some (.int .i64 b) ∧ w.cell? ⟨(ad.add (k * 3)).block, (ad.add (k * 3)).off + 2, none⟩ = some (.int .i64 m) := by
  obtain ⟨v, rfl, A, c, rfl, h1, h2, h3⟩ := h
  exact ⟨A, c, rfl, h1, h2, h3⟩
theorem ret_i {k : IntKind} {a b : Int} (h : a = b) : Ending.returned (.int k a) = .returned (.int k b) := by rw [h]
theorem ret_b {a b : Bool} (h : a = b) : Ending.returned (.bool a) = .returned (.bool b) := by rw [h]
end Go.Proofs.YtgcnijmmjlfabaaGreatDoor

namespace Go.Proofs.YtgcnijmmjlfabaaGreatDoor
open Go.RowKit

def cmpI (x y : Int) : Int := if x < y then -1 else if y < x then 1 else 0
def vtxB (n v : Int) : Bool := decide (0 ≤ v) && decide (v < n)
theorem vtxB_iff (n v : Int) : vtxB n v = true ↔ 0 ≤ v ∧ v < n := by simp [vtxB]
end Go.Proofs.YtgcnijmmjlfabaaGreatDoor

namespace Go.Proofs.YtgcnijmmjlfabaaGreatDoor
open Go.RowKit

theorem okE_bad {n la lb a b m : Int} (h : vtxB n a = false ∨ vtxB n b = false ∨ m < 1 ∨ 50 < m) : okE n (la, lb) (a, b, m) = 2 := by
  unfold okE
  simp only
  rw [if_pos]
  simp only [vtxB, Bool.and_eq_false_iff, decide_eq_false_iff_not] at h
  omega

end Go.Proofs.YtgcnijmmjlfabaaGreatDoor

namespace Go.Proofs.YtgcnijmmjlfabaaGreatDoor
open Go.RowKit

/-- Block b is known whole. -/
def BL (w : World) (b : Nat) (T : TypeId) (us : List Value) : Prop := w.heap[b]? = some (.cells us.toArray T (0, 0))
theorem BL.lt {w : World} {b : Nat} {T : TypeId} {us : List Value} (h : BL w b T us) : b < w.heap.size := lt_of_block h
theorem BL.cell {w : World} {b : Nat} {T : TypeId} {us : List Value} (h : BL w b T us) (k : Nat) : w.cell? ⟨b, k, none⟩ = us[k]? := by
  rw [cell_of_row w b k _ T (0, 0) h]; simp
theorem BL.frozen {w : World} {b : Nat} {T : TypeId} {us : List Value} (h : BL w b T us) (k : Nat) : w.frozen? ⟨b, k, none⟩ = false := frozen_of_row w b k _ T h
theorem BL.below {w w' : World} {b B : Nat} {T : TypeId} {us : List Value} (h : BL w b T us) (hb : Below B w w') (hl : b < B) : BL w' b T us := (hb.block b hl).trans h
theorem BL.bel {w w' : World} {b : Nat} {T : TypeId} {us : List Value} (h : BL w b T us) (hb : Below w.heap.size w w') : BL w' b T us := h.below hb h.lt
theorem BL.alloc {w : World} {b : Nat} {T : TypeId} {us : List Value} (h : BL w b T us) (o : Obj) : BL (w.alloc o) b T us := (Below.heap_alloc w o b h.lt).trans h
theorem BL.drew {w : World} {b : Nat} {T : TypeId} {us : List Value} (h : BL w b T us) : BL w.drew b T us := h
theorem BL.new' (w : World) (us : Array Value) (T : TypeId) : BL (w.alloc (.cells us T)) w.heap.size T us.toList := heap_alloc_new w _
theorem BL.set {w : World} {b : Nat} {T : TypeId} {us : List Value} (h : BL w b T us) (k : Nat) (v : Value) : BL (w.setCell ⟨b, k, none⟩ v) b T (us.set k v) := by
  have := heap_setCell_same w b k _ T v h
  unfold BL
  simpa using this
theorem BL.set_other {w : World} {b : Nat} {T : TypeId} {us : List Value} (h : BL w b T us) {a : Addr} (ha : b ≠ a.block) (v : Value) : BL (w.setCell a v) b T us := (heap_setCell_other w a b v ha).trans h
theorem BL.grown {w w' : World} {b : Nat} {T : TypeId} {us : List Value} (h : BL w b T us) {row : Option Nat} (hg : w.grownBy w' row) (hr : row ≠ some b) : BL w' b T us := by
  have := hg.block b h.lt (fun e => hr e.symm)
  exact this.trans h
end Go.Proofs.YtgcnijmmjlfabaaGreatDoor

namespace Go.Proofs.YtgcnijmmjlfabaaGreatDoor
open Go.RowKit

theorem take_tri {es : List Tri} {k : Nat} {t : Tri} (h : Hid (es[k]? = some t)) : es.take (k + 1) = es.take k ++ [t] := by
  obtain ⟨hk, rfl⟩ := List.getElem?_eq_some_iff.1 h.out
  exact List.take_succ_eq_append_getElem hk
end Go.Proofs.YtgcnijmmjlfabaaGreatDoor

namespace Go.Proofs.YtgcnijmmjlfabaaGreatDoor
open Go.RowKit Go.Maps

theorem OV.shape_ {w : World} {B : Nat} {e : TypeId} {v : Value} {us : List Value} (h : OV w B e v us) (hl : 1 ≤ us.length) : ∃ g cap, v = .slice (some ⟨g, 0, none⟩) us.length cap := by
  rcases h.1.2 with ⟨_, hn⟩ | ⟨g, cap, cur, rfl, hg, hh, _⟩
  · omega
  · exact ⟨g, cap, rfl⟩
section
variable {P : Program} (w : World)
end
theorem OV.at_ {w : World} {B : Nat} {e : TypeId} {v : Value} {us : List Value} (h : OV w B e v us) {k : Nat} {u : Value} (hk : us[k]? = some u) :
    ∃ g cap, v = .slice (some ⟨g, 0, none⟩) us.length cap ∧ B ≤ g ∧ g < w.heap.size ∧ w.cell? ⟨g, k, none⟩ = some u ∧ w.frozen? ⟨g, k, none⟩ = false ∧
      ∀ x : Value, OV (w.setCell ⟨g, k, none⟩ x) B e (.slice (some ⟨g, 0, none⟩) us.length cap) (us.set k x) ∧ w.grownBy (w.setCell ⟨g, k, none⟩ x) (some g) := by
  have hkl := (List.getElem?_eq_some_iff.1 hk).1
  obtain ⟨h1, h2⟩ := h
  rcases h1.2 with ⟨_, hn⟩ | ⟨g, cap, cur, rfl, hg, hh, hn, hm, hs, ht⟩
  · omega
  · refine ⟨g, cap, rfl, hg, lt_of_block hh, ?_, h1.frozenAt k, fun x => ?_⟩
    · rw [h1.cellAt k (by omega), hk]
    · have := h1.stored k x
      exact ⟨⟨by rw [List.length_set]; exact this.1, by simpa using h2⟩, this.2⟩
end Go.Proofs.YtgcnijmmjlfabaaGreatDoor

namespace Go.Proofs.YtgcnijmmjlfabaaGreatDoor
open Go.RowKit

def connB (n : Int) (es : List Tri) : Bool := decide (partsN n.toNat (joinAll grownF es) = 1)
theorem connB_iff {n : Nat} {es : List Tri} (h1 : 1 ≤ n) (h2 : n ≤ 12) (he : Edges n es) : connB n es = true ↔ Conn n (wgt es) := by
  unfold connB
  rw [decide_eq_true_iff, conn_parts h1 h2 he.ends (fun t ht => (he.mult t ht).1) (by simpa using joinAll_says h2 es [] grownF (says_nil n) he.ends)]
  simp
end Go.Proofs.YtgcnijmmjlfabaaGreatDoor

namespace Go.Proofs.YtgcnijmmjlfabaaGreatDoor
open Go.RowKit

def Quiet (w : World) (v : Value) (e : Ending) (w' : World) : Prop := e = .returned v ∧ ∃ n, w' = w.drewN n
/-- Equal at divisors. -/
def eqL : List Int → List Int → Bool
  | [], [] => true
  | x :: r, y :: s => x == y && eqL r s
  | _, _ => false
theorem eqL_iff (xs ys : List Int) : eqL xs ys = true ↔ xs = ys := by
  induction xs generalizing ys with
  | nil => cases ys <;> simp [eqL]
  | cons x r ih => cases ys <;> simp [eqL, ih]
theorem eqL_len {xs ys : List Int} (h : xs.length ≠ ys.length) : eqL xs ys = false := by
  rw [Bool.eq_false_iff]; intro e; exact h (congrArg List.length ((eqL_iff _ _).1 e))

end Go.Proofs.YtgcnijmmjlfabaaGreatDoor

namespace Go.Proofs.YtgcnijmmjlfabaaGreatDoor

def Bd (B : Int) (d : List Int) : Prop := ∀ j, -B ≤ d.getD j 0 ∧ d.getD j 0 ≤ B
theorem Bd.mono {B B' : Int} {d : List Int} (h : Bd B d) (hB : B ≤ B') : Bd B' d := fun j => by have := h j; omega
theorem mul_abs {x y X Y : Int} (hx : -X ≤ x) (hx' : x ≤ X) (hy : -Y ≤ y) (hy' : y ≤ Y) : -(X * Y) ≤ x * y ∧ x * y ≤ X * Y := by
  have a1 : (X - x) * (Y + y) ≥ 0 := Int.mul_nonneg (by omega) (by omega)
  have a2 : (X + x) * (Y - y) ≥ 0 := Int.mul_nonneg (by omega) (by omega)
  have a3 : (X - x) * (Y - y) ≥ 0 := Int.mul_nonneg (by omega) (by omega)
  have a4 : (X + x) * (Y + y) ≥ 0 := Int.mul_nonneg (by omega) (by omega)
  simp only [Int.sub_mul, Int.add_mul, Int.mul_add, Int.mul_sub] at a1 a2 a3 a4
  generalize x * y = p at *
  generalize X * Y = q at *
  generalize x * Y = r at *
  generalize X * y = s at *
  omega

end Go.Proofs.YtgcnijmmjlfabaaGreatDoor

namespace Go.Proofs.YtgcnijmmjlfabaaGreatDoor
open Go.RowKit

def checkE (zs : List Int) (n : Int) : Int := if n < 1 ∨ 12 < n then 2 else if (zs.length : Int) ≠ n then 8 else if zs.all InB then 0 else 2
end Go.Proofs.YtgcnijmmjlfabaaGreatDoor

namespace Go.Proofs.YtgcnijmmjlfabaaGreatDoor
open Go.RowKit Go.Shelf

theorem getD_tri {es : List Tri} {k : Nat} {t : Tri} (h : Hid (es[k]? = some t)) : t ∈ es := List.mem_of_getElem? h.out
end Go.Proofs.YtgcnijmmjlfabaaGreatDoor

namespace Go.Proofs.YtgcnijmmjlfabaaGreatDoor
open Go.RowKit Go.Shelf

theorem OV.shape {w : World} {B : Nat} {e : TypeId} {v : Value} {us : List Value} (h : OV w B e v us) (hl : 1 ≤ us.length) : ∃ g cap, v = .slice (some ⟨g, 0, none⟩) us.length cap ∧ B ≤ g ∧ g < w.heap.size := by
  rcases h.1.2 with ⟨_, hn⟩ | ⟨g, cap, cur, rfl, hg, hh, _⟩
  · omega
  · exact ⟨g, cap, rfl, hg, lt_of_block hh⟩

/-- The two blocks of the statement itself are as they were. -/
def KeepLD (h : Nat) (W W' : World) : Prop := W'.heap[h]? = W.heap[h]? ∧ W'.heap[h + 1]? = W.heap[h + 1]?

def iterPost {α : Type} (h : Nat) (Kp : World → World → Prop) (I : List α → World → Prop) (Ix : Code → List α → World → Prop) (xs : List α) (W : World) : Exit → Act → World → Prop
  | .normal, _, W' => KeepLD h W W' ∧ Kp W W' ∧ I xs W'
  | .ret, _, W' => KeepLD h W W' ∧ Ix .ret xs W'
  | .exit id, _, W' => KeepLD h W W' ∧ Ix (.exit id) xs W'
  | .goto t, _, W' => KeepLD h W W' ∧ Ix (.goto t) xs W'
  | .panic _, _, _ => False
  | .outgrown, _, _ => False

variable {P : Program}
end Go.Proofs.YtgcnijmmjlfabaaGreatDoor

namespace Go.Proofs.YtgcnijmmjlfabaaGreatDoor
open Go.RowKit Go.Shelf
attribute [local go_sem] Oper.semAt_some

def LkK (Bs : List Nat) (A C : World) : Prop := A.heap.size ≤ C.heap.size ∧ ∀ k ∈ Bs, C.heap[k]? = A.heap[k]?
end Go.Proofs.YtgcnijmmjlfabaaGreatDoor

namespace Go.Proofs.YtgcnijmmjlfabaaGreatDoor
open Go.RowKit Go.Shelf
attribute [local go_sem] Oper.semAt_some

theorem BL.putLoop {w : World} {b : Nat} {T : TypeId} {us : List Value} (h : BL w b T us) {l : Nat} {r : Loop} (hl : w.heap[l]? = some (.loop r)) (o : Obj) : BL (w.putObj l o) b T us := by
  refine (World.putObj_heap_other ?_).trans h
  intro e; subst e
  unfold BL at h; rw [h] at hl; cases hl
theorem below_putLoop {B : Nat} {w W : World} (h : Below B w W) {l : Nat} (hl : B ≤ l) (o : Obj) : Below B w (W.putObj l o) :=
  h.trans ⟨rfl, rfl, rfl, by simp [World.putObj], fun k hk => World.putObj_heap_other (by omega)⟩
theorem LkK_trans {Bs : List Nat} (A B C : World) (h : LkK Bs A B) (k : LkK Bs B C) : LkK Bs A C := ⟨Nat.le_trans h.1 k.1, fun x hx => (k.2 x hx).trans (h.2 x hx)⟩
theorem LkK_put {Bs : List Nat} (W : World) {l : Nat} (o : Obj) (h : l ∉ Bs) : LkK Bs W (W.putObj l o) :=
  ⟨by simp [World.putObj], fun k hk => World.putObj_heap_other (fun e => h (e ▸ hk))⟩
end Go.Proofs.YtgcnijmmjlfabaaGreatDoor

