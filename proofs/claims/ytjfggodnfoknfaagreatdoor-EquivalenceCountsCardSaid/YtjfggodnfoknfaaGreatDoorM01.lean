/- Words for memory: a slice of ints that reads as a list; a slice of values; kept over whatever leaves old blocks alone.
   append onto a slice of the call's own, the source any slice that reads as a list; one store of a value into an own slice.
   Determinants of small tables by expansion along the first row: linear in each column, zero with two equal columns, the rule of Cramer. No program in sight.
   The rule of Cramer the other way round, for symmetric tables all of whose leading blocks are injective: the determinant is not 0, and the table times the determinants is the determinant times the column. No program in sight.
   Weighted graphs on n vertices: the Laplacian, the maximum principle, and the uniqueness of reduced divisors. No program in sight.
   The reduced Laplacian as a table: all its leading blocks are injective, so its determinant is not 0, and the rule of Cramer finds scripts. No program in sight. -/
import Derived.BigQuiet
import Derived.Deep.AppendLies
import Derived.Deep.DeepFit
import Derived.Lib.Hide
import Derived.StillTailTactics
import Derived.Test.YtjfggodnfoknfaaGreatDoorProg
import Derived.WalkLawsBesides
import Derived.WalkSpells
set_option maxRecDepth 100000
set_option maxHeartbeats 16000000
namespace Go.Proofs.YtjfggodnfoknfaaGreatDoor
open Go.RowKit

theorem block_of_add (a : Addr) (n : Nat) : (a.add n).block = a.block := by unfold Addr.add; split <;> rfl
theorem add_of_add (a : Addr) (i j : Nat) : (a.add i).add j = a.add (i + j) := by
  unfold Addr.add
  by_cases hi : i = 0 <;> by_cases hj : j = 0 <;> simp [hi, hj, Nat.add_assoc]

/-- The slice value v reads as the one-cell values us. -/
def RV (w : World) (v : Value) (us : List Value) : Prop :=
  ∃ A c, v = .slice A us.length c ∧ us.length ≤ c ∧ us.length ≤ 17592186044415 ∧
    ∀ k, k < us.length → ∃ ad, A = some ad ∧ ad.block < w.heap.size ∧ w.cell? (ad.add k) = us[k]?

/-- The slice value v reads as the ints zs. -/
def RI (w : World) (v : Value) (zs : List Int) : Prop := RV w v (zs.map (.int .i64))

theorem RV.keep {w w' : World} {v : Value} {us : List Value} (h : RV w v us) (hs : w.heap.size ≤ w'.heap.size)
    (hk : ∀ p : Addr, p.block < w.heap.size → w'.cell? p = w.cell? p) : RV w' v us := by
  obtain ⟨A, c, h1, h2, h3, h4⟩ := h
  refine ⟨A, c, h1, h2, h3, fun k hkl => ?_⟩
  obtain ⟨ad, e, hb, hc⟩ := h4 k hkl
  exact ⟨ad, e, by omega, (hk _ (by rw [block_of_add]; exact hb)).trans hc⟩
theorem RV.below {w w' : World} {v : Value} {us : List Value} (h : RV w v us) (hb : Below w.heap.size w w') : RV w' v us :=
  h.keep hb.size fun _ hp => hb.cell hp
theorem RV.nil_ (w : World) : RV w (.slice none 0 0) [] := ⟨none, 0, rfl, by simp, by simp, fun k hk => by simp at hk⟩
theorem RI.below {w w' : World} {v : Value} {zs : List Int} (h : RI w v zs) (hb : Below w.heap.size w w') : RI w' v zs := RV.below h hb
theorem RI.nil_ (w : World) : RI w (.slice none 0 0) [] := RV.nil_ w
theorem RI.open_ {w : World} {v : Value} {zs : List Int} (h : RI w v zs) : ∃ A c, v = .slice A zs.length c ∧ zs.length ≤ c ∧ zs.length ≤ 17592186044415 ∧
    ∀ k, k < zs.length → ∃ ad z, A = some ad ∧ ad.block < w.heap.size ∧ Hid (zs[k]? = some z) ∧ w.cell? (ad.add k) = some (.int .i64 z) := by
  obtain ⟨A, c, h1, h2, h3, h4⟩ := h
  simp only [List.length_map] at h1 h2 h3 h4
  refine ⟨A, c, h1, h2, h3, fun k hk => ?_⟩
  obtain ⟨ad, e, hb, hc⟩ := h4 k hk
  refine ⟨ad, zs[k], e, hb, List.getElem?_eq_getElem hk, hc.trans ?_⟩
  simp [List.getElem?_map, List.getElem?_eq_getElem hk]
theorem RI.mk_ {w : World} {A : Option Addr} {c : Nat} {zs : List Int} (h2 : zs.length ≤ c) (h3 : zs.length ≤ 17592186044415)
    (h4 : ∀ k z, zs[k]? = some z → ∃ ad, A = some ad ∧ ad.block < w.heap.size ∧ w.cell? (ad.add k) = some (.int .i64 z)) : RI w (.slice A zs.length c) zs := by
  refine ⟨A, c, by simp, by simpa using h2, by simpa using h3, fun k hk => ?_⟩
  simp only [List.length_map] at hk
  obtain ⟨ad, e, hb, hc⟩ := h4 k zs[k] (List.getElem?_eq_getElem hk)
  refine ⟨ad, e, hb, hc.trans ?_⟩
  simp [List.getElem?_map, List.getElem?_eq_getElem hk]

theorem RI.len {w : World} {v : Value} {zs : List Int} (h : RI w v zs) : zs.length ≤ 17592186044415 := by
  obtain ⟨A, c, _, _, h, _⟩ := RI.open_ h; exact h

theorem drop_at {α : Type} {l : List α} {k : Nat} {x : α} (h : Hid (l[k]? = some x)) : l.drop k = x :: l.drop (k + 1) := by
  have h' := List.getElem?_eq_some_iff.1 h.out
  obtain ⟨hk, rfl⟩ := h'
  exact List.drop_eq_getElem_cons hk
/-- The slice value v reads as slices of ints. -/
def RR (w : World) (v : Value) (zss : List (List Int)) : Prop :=
  ∃ us : List Value, RV w v us ∧ us.length = zss.length ∧ ∀ (k : Nat) (zs : List Int), zss[k]? = some zs → ∃ u, us[k]? = some u ∧ RI w u zs
theorem RR.below {w w' : World} {v : Value} {zss : List (List Int)} (h : RR w v zss) (hb : Below w.heap.size w w') : RR w' v zss := by
  obtain ⟨us, h1, h2, h3⟩ := h
  refine ⟨us, h1.below hb, h2, fun k zs hk => ?_⟩
  obtain ⟨u, e, hr⟩ := h3 k zs hk
  exact ⟨u, e, hr.below hb⟩
theorem RR.open_ {w : World} {v : Value} {zss : List (List Int)} (h : RR w v zss) : ∃ A c, v = .slice A zss.length c ∧ zss.length ≤ c ∧ zss.length ≤ 17592186044415 ∧
    ∀ k, k < zss.length → ∃ ad zs A1 c1, A = some ad ∧ ad.block < w.heap.size ∧ Hid (zss[k]? = some zs) ∧ w.cell? (ad.add k) = some (.slice A1 zs.length c1) ∧ RI w (.slice A1 zs.length c1) zs := by
  obtain ⟨us, ⟨A, c, h1, h2, h3, h4⟩, hl, hu⟩ := h
  rw [hl] at h1 h2 h3 h4
  refine ⟨A, c, h1, h2, h3, fun k hk => ?_⟩
  obtain ⟨ad, e, hb, hc⟩ := h4 k hk
  obtain ⟨u, hu1, hr⟩ := hu k zss[k] (List.getElem?_eq_getElem hk)
  obtain ⟨A1, c1, rfl, _⟩ := hr.open_
  exact ⟨ad, zss[k], A1, c1, e, hb, List.getElem?_eq_getElem hk, hc.trans hu1, hr⟩
/-- The value v owns the one-cell values us, of element type e, from block B on. -/
def OV (w : World) (B : Nat) (e : TypeId) (v : Value) (us : List Value) : Prop := w.ownsRow B e 1 v us.length us ∧ us.length ≤ 17592186044415
def OI (w : World) (B : Nat) (v : Value) (zs : List Int) : Prop := OV w B 3 v (zs.map (.int .i64))
theorem OV.rv {w : World} {B : Nat} {e : TypeId} {v : Value} {us : List Value} (h : OV w B e v us) : RV w v us := by
  obtain ⟨h, hb⟩ := h
  rcases h.2 with ⟨rfl, hn⟩ | ⟨g, cap, cur, rfl, hg, hh, hn, hm, hs, ht⟩
  · exact ⟨none, 0, by rw [hn], by omega, hb, fun k hk => by omega⟩
  · refine ⟨some ⟨g, 0, none⟩, cap, rfl, hn, hb, fun k hk => ⟨_, rfl, ?_, ?_⟩⟩
    · rcases Nat.lt_or_ge g w.heap.size with hlt | hge
      · exact hlt
      · rw [Array.getElem?_eq_none hge] at hh; cases hh
    · rw [h.cells (g := g) rfl k _ (List.getElem?_eq_getElem hk), List.getElem?_eq_getElem hk]
theorem OI.ri {w : World} {B : Nat} {v : Value} {zs : List Int} (h : OI w B v zs) : RI w v zs := OV.rv h
theorem OV.below {w w' : World} {B : Nat} {e : TypeId} {v : Value} {us : List Value} (h : OV w B e v us) (hb : Below w.heap.size w w') : OV w' B e v us :=
  ⟨h.1.kept (row := none) ⟨hb.os, hb.tape, hb.output, hb.size, fun k hk _ => hb.block k hk⟩ (by cases v.ownBlock <;> simp), h.2⟩
theorem OV.mono {w : World} {B B' : Nat} {e : TypeId} {v : Value} {us : List Value} (h : OV w B e v us) (hB : B' ≤ B) : OV w B' e v us := by
  obtain ⟨⟨h1, h2⟩, h3⟩ := h
  refine ⟨⟨h1, ?_⟩, h3⟩
  rcases h2 with h2 | ⟨g, cap, cur, r1, r2, r3⟩
  · exact .inl h2
  · exact .inr ⟨g, cap, cur, r1, by omega, r3⟩
theorem OV.mono_own {w : World} {B B' : Nat} {e : TypeId} {size n : Nat} {v : Value} {us : List Value} (h : w.ownsRow B e size v n us) (hB : B' ≤ B) : w.ownsRow B' e size v n us := by
  obtain ⟨h1, h2⟩ := h
  refine ⟨h1, ?_⟩
  rcases h2 with h2 | ⟨g, cap, cur, r1, r2, r3⟩
  · exact .inl h2
  · exact .inr ⟨g, cap, cur, r1, by omega, r3⟩
theorem OI.below {w w' : World} {B : Nat} {v : Value} {zs : List Int} (h : OI w B v zs) (hb : Below w.heap.size w w') : OI w' B v zs := OV.below h hb
theorem OV.nil_ (w : World) (B : Nat) (e : TypeId) : OV w B e (.slice none 0 0) [] := ⟨World.ownsRow_nil _ _ _ _, by simp⟩
theorem OI.nil_ (w : World) (B : Nat) : OI w B (.slice none 0 0) [] := OV.nil_ _ _ _
theorem below_drewN {B : Nat} {a w : World} (h : Below B a w) (n : Nat) : Below B a (w.drewN n) := ⟨h.os, h.tape, h.output, h.size, h.block⟩
theorem int_info : (Tryz.prog.info? 3).map (fun i => (i.zero, i.size, i.bytes)) = some (some (.int .i64 0), 1, 8) := by kernel_rfl
/-- A new block of values reads as them. -/
theorem RV.lit (w : World) (us : Array Value) (e : TypeId) (n : Nat) (hn : us.size = n) (hb : n ≤ 17592186044415) : RV (w.alloc (.cells us e)) (.slice (some ⟨w.heap.size, 0, none⟩) n n) us.toList := by
  have hn' : us.toList.length = n := by simpa using hn
  refine ⟨some ⟨w.heap.size, 0, none⟩, n, by rw [hn'], by rw [hn']; omega, by rw [hn']; omega, fun k hk => ⟨_, rfl, by simp, ?_⟩⟩
  rw [hn'] at hk
  have : ((⟨w.heap.size, 0, none⟩ : Addr).add k) = ⟨w.heap.size, k, none⟩ := by
    unfold Addr.add; split
    · next h => rw [h]
    · simp
  rw [this, cell_of_row (w.alloc (.cells us e)) w.heap.size k us e (0, 0) (heap_alloc_new w _)]
  simp
theorem below_alloc (w : World) (o : Obj) : Below w.heap.size w (w.alloc o) := (Below.refl _ _).alloc (Nat.le_refl _) o
theorem RR.lit1 {w : World} {v : Value} {zs : List Int} (e : TypeId) (h : RI w v zs) : RR (w.alloc (.cells #[v] e)) (.slice (some ⟨w.heap.size, 0, none⟩) 1 1) [zs] := by
  refine ⟨[v], RV.lit w #[v] e 1 rfl (by omega), rfl, fun k zs' hk => ?_⟩
  match k, hk with
  | 0, hk => simp at hk; subst hk; exact ⟨v, rfl, h.below (below_alloc w _)⟩
theorem RR.lit2 {w : World} {v u : Value} {zs ys : List Int} (e : TypeId) (h : RI w v zs) (h' : RI w u ys) : RR (w.alloc (.cells #[v, u] e)) (.slice (some ⟨w.heap.size, 0, none⟩) 2 2) [zs, ys] := by
  refine ⟨[v, u], RV.lit w #[v, u] e 2 rfl (by omega), rfl, fun k zs' hk => ?_⟩
  match k, hk with
  | 0, hk => simp at hk; subst hk; exact ⟨v, rfl, h.below (below_alloc w _)⟩
  | 1, hk => simp at hk; subst hk; exact ⟨u, rfl, h'.below (below_alloc w _)⟩
def InB (k : Int) : Bool := decide (-1048576 ≤ k) && decide (k ≤ 1048576)
theorem inB_iff (k : Int) : InB k = true ↔ -1048576 ≤ k ∧ k ≤ 1048576 := by simp [InB]
end Go.Proofs.YtjfggodnfoknfaaGreatDoor

namespace Go.Proofs.YtjfggodnfoknfaaGreatDoor
open Go.RowKit

section
variable {P : Program} (w : World)
theorem run_appendV (t ty e : TypeId) (i : TypeInfo) (z : Value) (bytes : Nat) (ht : P.underlying t = some (.slice e)) (hi : P.info? e = some i) (hz : i.zero = some z)
    (hsize : i.size = 1) (hby : i.bytes = bytes) (hzs : z.cells.size = 1) (B : Nat) (v : Value) (us : List Value) (hown : OV w B e v us) (vx : Value) (news : List Value) (hr : RV w vx news)
    (h1 : ∀ u ∈ news, u.oneCell' = true) (hb1 : us.length + news.length ≤ 17592186044415) (hb2 : (us.length + news.length) * bytes ≤ 140737488355328) (hB : B ≤ w.heap.size) :
    ∃ v' w', (Builtin.append_ #[t, t] ty #[v, vx]).run P w = .ok v' w' ∧ OV w' B e v' (us ++ news) ∧ w.grownBy w' v.ownBlock ∧ (v'.ownBlock = v.ownBlock ∨ v'.ownBlock = some w.heap.size) := by
  obtain ⟨A, c, rfl, _, _, hc⟩ := hr
  rcases A with _ | ad
  · have hn : news = [] := by
      rcases Nat.eq_zero_or_pos news.length with h0 | h0
      · exact List.eq_nil_of_length_eq_zero h0
      · obtain ⟨_, h, _⟩ := hc 0 h0; cases h
    subst hn
    refine ⟨v, w, ?_, by simpa using hown, World.grownBy.refl w _, .inl rfl⟩
    rcases hown.1.2 with ⟨rfl, _⟩ | ⟨g, cap, cur, rfl, _, _, hnc, _⟩
    · simp [Builtin.append_, run_underlying ht, sizeOf, typeInfo, hi, Builtin.lenOf, Builtin.firstCells]
    · simp [Builtin.append_, run_underlying ht, sizeOf, typeInfo, hi, Builtin.lenOf, Builtin.firstCells, hnc, storeCells]
  · obtain ⟨v', w', hrun, h2, h3, _, h5⟩ := run_append_own_at (P := P) w B t ty e i z 1 bytes ht hi hz hsize hby hzs (by omega) v us.length us hown.1 ad news.length c news (by simp)
      (fun j u hu => by
        obtain ⟨hj, rfl⟩ := List.getElem?_eq_some_iff.1 hu
        obtain ⟨ad', he, _, hcc⟩ := hc j hj
        obtain rfl := Option.some.inj he
        exact hcc.trans hu) h1 (by unfold maxLen; omega) hb2 hB
    exact ⟨v', w', hrun, ⟨by simpa using h2, by simpa using hb1⟩, h3, h5⟩

theorem wpList_appendV {ops : Array Oper} {rest : List Oper} {o : Oper} {a : Act} {Q : Exit → Act → World → Prop} (hgd : o.guard = none) (s x : Operand) (t : TypeId)
    (ho : o.op = .call { callee := .builtin .append, args := #[s, x], argTypes := #[t, t] })
    (e : TypeId) (i : TypeInfo) (z : Value) (bytes : Nat) (ht : P.underlying t = some (.slice e)) (hi : P.info? e = some i) (hz : i.zero = some z)
    (hsize : i.size = 1) (hby : i.bytes = bytes) (hzs : z.cells.size = 1) (B : Nat) (v : Value) (us : List Value) (hs : a.eval s = v) (hown : OV w B e v us)
    (vx : Value) (news : List Value) (hx : a.eval x = vx) (hr : RV w vx news)
    (h1 : ∀ u ∈ news, u.oneCell' = true) (hb1 : us.length + news.length ≤ 17592186044415) (hb2 : (us.length + news.length) * bytes ≤ 140737488355328) (hB : B ≤ w.heap.size)
    (h : ∀ v' w', OV w' B e v' (us ++ news) → w.grownBy w' v.ownBlock → (v'.ownBlock = v.ownBlock ∨ v'.ownBlock = some w.heap.size) → wpList P ops Q rest (a.put o.dst v') w') : wpList P ops Q (o :: rest) a w := by
  refine wpList_plain hgd fun K hK => ?_
  obtain ⟨v', w', hrun, h2, h3, h4⟩ := run_appendV (P := P) w t o.type e i z bytes ht hi hz hsize hby hzs B v us hown vx news hr h1 hb1 hb2 hB
  unfold Oper.wp execOp
  simp only [ho, resolve, invoke, builtin, Sem.run_bind, Sem.run_pure, Result.andThen_ok, List.map_toArray, List.map_cons, List.map_nil, hs, hx, hrun]
  exact hK _ _ (h v' w' h2 h3 h4)
end
/-- An element of an own slice: its cell, and a store into it. -/
theorem OI.at_ {w : World} {B : Nat} {v : Value} {zs : List Int} (h : OI w B v zs) {k : Nat} (hk : k < zs.length) :
    ∃ g cap, v = .slice (some ⟨g, 0, none⟩) zs.length cap ∧ B ≤ g ∧ w.cell? ⟨g, k, none⟩ = some (.int .i64 (zs.getD k 0)) ∧ w.frozen? ⟨g, k, none⟩ = false ∧
      ∀ x : Int, OI (w.setCell ⟨g, k, none⟩ (.int .i64 x)) B (.slice (some ⟨g, 0, none⟩) zs.length cap) (zs.set k x) ∧ w.grownBy (w.setCell ⟨g, k, none⟩ (.int .i64 x)) (some g) := by
  have h' := h
  obtain ⟨h1, h2⟩ := h
  simp only [List.length_map] at h1 h2
  rcases h1.2 with ⟨_, hn⟩ | ⟨g, cap, cur, rfl, hg, hh, hn, hm, hs, ht⟩
  · omega
  · refine ⟨g, cap, rfl, hg, ?_, h1.frozenAt k, fun x => ?_⟩
    · rw [h1.cellAt k (by omega), List.getElem?_map, List.getElem?_eq_getElem hk]
      simp [List.getElem?_eq_getElem hk]
    · have := h1.stored k (.int .i64 x)
      exact ⟨⟨by rw [List.map_set, List.length_set, List.length_map]; exact this.1, by simpa using h2⟩, this.2⟩
theorem OI.at' {w : World} {B g n cap : Nat} {zs : List Int} (h : OI w B (.slice (some ⟨g, 0, none⟩) n cap) zs) {k : Nat} (hk : k < zs.length) :
    n = zs.length ∧ B ≤ g ∧ w.cell? ⟨g, k, none⟩ = some (.int .i64 (zs.getD k 0)) ∧ w.frozen? ⟨g, k, none⟩ = false ∧
      ∀ x : Int, OI (w.setCell ⟨g, k, none⟩ (.int .i64 x)) B (.slice (some ⟨g, 0, none⟩) n cap) (zs.set k x) ∧ w.grownBy (w.setCell ⟨g, k, none⟩ (.int .i64 x)) (some g) := by
  obtain ⟨g', cap', hv, h1, h2, h3, h4⟩ := h.at_ hk
  simp only [Value.slice.injEq, Option.some.injEq, Addr.mk.injEq, and_true] at hv
  obtain ⟨rfl, rfl, rfl⟩ := hv
  exact ⟨rfl, h1, h2, h3, h4⟩
theorem ints_one (zs : List Int) : ∀ u ∈ zs.map (Value.int .i64), u.oneCell' = true := by
  intro u hu; obtain ⟨z, _, rfl⟩ := List.mem_map.1 hu; rfl
/-- What the caller may say behind an append onto its own slice. -/
theorem below_own {w w0 w' : World} {B : Nat} {v : Value} {e : TypeId} {us : List Value} (hb : Below B w0 w) (hB : B ≤ w.heap.size) (h : OV w B e v us) (hg : w.grownBy w' v.ownBlock) : Below B w0 w' :=
  hb.grown hg hB fun k hk => (h.1.lt k hk).1
end Go.Proofs.YtjfggodnfoknfaaGreatDoor

namespace Go.Proofs.YtjfggodnfoknfaaGreatDoor

def sumN : Nat → (Nat → Int) → Int
  | 0, _ => 0
  | n + 1, f => sumN n f + f n
theorem sumN_congr {n : Nat} {f g : Nat → Int} (h : ∀ i, i < n → f i = g i) : sumN n f = sumN n g := by
  induction n with
  | zero => rfl
  | succ n ih => simp only [sumN]; rw [ih fun i hi => h i (by omega), h n (by omega)]
theorem sumN_add (n : Nat) (f g : Nat → Int) : sumN n (fun i => f i + g i) = sumN n f + sumN n g := by
  induction n with
  | zero => rfl
  | succ n ih => simp only [sumN, ih]; omega
theorem sumN_mul (n : Nat) (a : Int) (f : Nat → Int) : sumN n (fun i => a * f i) = a * sumN n f := by
  induction n with
  | zero => simp [sumN]
  | succ n ih => simp only [sumN, ih, Int.mul_add]
theorem sumN_zero {n : Nat} {f : Nat → Int} (h : ∀ i, i < n → f i = 0) : sumN n f = 0 := by
  induction n with
  | zero => rfl
  | succ n ih => simp only [sumN]; rw [ih fun i hi => h i (by omega), h n (by omega)]; rfl
theorem sumN_one {n c : Nat} {f : Nat → Int} (hc : c < n) (h : ∀ i, i < n → i ≠ c → f i = 0) : sumN n f = f c := by
  induction n with
  | zero => omega
  | succ n ih =>
    simp only [sumN]
    by_cases e : c = n
    · rw [sumN_zero fun i hi => h i (by omega) (by omega), e]; omega
    · rw [ih (by omega) fun i hi hne => h i (by omega) hne, h n (by omega) (by omega)]; omega
theorem sumN_two {n c : Nat} {f : Nat → Int} (hc : c + 1 < n) (h : ∀ i, i < n → i ≠ c → i ≠ c + 1 → f i = 0) : sumN n f = f c + f (c + 1) := by
  induction n with
  | zero => omega
  | succ n ih =>
    simp only [sumN]
    by_cases e : c + 1 = n
    · subst e; rw [sumN_one (c := c) (by omega) fun i hi hne => h i (by omega) hne (by omega)]
    · rw [ih (by omega) fun i hi h1 h2 => h i (by omega) h1 h2, h n (by omega) (by omega) (by omega)]; omega

/-- The sign of a place. -/
def sgn (k : Nat) : Int := if k % 2 = 0 then 1 else -1
theorem sgn_succ (k : Nat) : sgn (k + 1) = - sgn k := by unfold sgn; split <;> split <;> omega
/-- The columns but k. -/
def skip (k j : Nat) : Nat := if j < k then j else j + 1
theorem skip_ne (k j : Nat) : skip k j ≠ k := by unfold skip; split <;> omega
def detN : Nat → (Nat → Nat → Int) → Int
  | 0, _ => 1
  | n + 1, M => sumN (n + 1) fun k => sgn k * M 0 k * detN n fun i j => M (i + 1) (skip k j)
theorem detN_congr {n : Nat} {M M' : Nat → Nat → Int} (h : ∀ i j, i < n → j < n → M i j = M' i j) : detN n M = detN n M' := by
  induction n generalizing M M' with
  | zero => rfl
  | succ n ih =>
    simp only [detN]
    refine sumN_congr fun k hk => ?_
    rw [h 0 k (by omega) hk, ih fun i j hi hj => h (i + 1) (skip k j) (by omega) (by unfold skip; split <;> omega)]

def setCol (M : Nat → Nat → Int) (c : Nat) (u : Nat → Int) : Nat → Nat → Int := fun i j => if j = c then u i else M i j
/-- The place of column c among the columns but k. -/
def place (k c : Nat) : Nat := if c < k then c else c - 1
theorem skip_place {k c : Nat} (h : k ≠ c) : skip k (place k c) = c := by
  unfold skip place
  by_cases a : c < k
  · rw [if_pos a, if_pos a]
  · rw [if_neg a, if_neg (by omega)]; omega
theorem skip_inj {k i j : Nat} (h : skip k i = skip k j) : i = j := by unfold skip at h; split at h <;> split at h <;> omega
theorem minor_setCol {M : Nat → Nat → Int} {c k : Nat} {u : Nat → Int} (h : k ≠ c) : (fun i j => setCol M c u (i + 1) (skip k j)) = setCol (fun i j => M (i + 1) (skip k j)) (place k c) (fun i => u (i + 1)) := by
  funext i j
  unfold setCol
  by_cases e : j = place k c
  · rw [if_pos e, e, skip_place h, if_pos rfl]
  · rw [if_neg e, if_neg]
    intro e2
    exact e (skip_inj (e2.trans (skip_place h).symm))
theorem minor_setCol_self {M : Nat → Nat → Int} {c : Nat} {u : Nat → Int} : (fun i j => setCol M c u (i + 1) (skip c j)) = fun i j => M (i + 1) (skip c j) := by
  funext i j
  unfold setCol
  rw [if_neg (skip_ne c j)]
/-- Linear in a column. -/
theorem detN_lin (n : Nat) (M : Nat → Nat → Int) (c : Nat) (hc : c < n) (a b : Int) (u v : Nat → Int) :
    detN n (setCol M c fun i => a * u i + b * v i) = a * detN n (setCol M c u) + b * detN n (setCol M c v) := by
  induction n generalizing M c u v with
  | zero => omega
  | succ n ih =>
    simp only [detN]
    rw [← sumN_mul, ← sumN_mul, ← sumN_add]
    refine sumN_congr fun k hk => ?_
    by_cases e : k = c
    · subst e
      rw [minor_setCol_self, minor_setCol_self, minor_setCol_self]
      simp only [setCol, if_true]
      grind
    · rw [minor_setCol e, minor_setCol e, minor_setCol e]
      simp only [setCol, if_neg e] at *
      have := ih (fun i j => M (i + 1) (skip k j)) (place k c) (by unfold place; split <;> omega) (fun i => u (i + 1)) (fun i => v (i + 1))
      rw [this]
      grind
/-- Two equal neighbouring columns. -/
theorem detN_eq_next (n : Nat) (M : Nat → Nat → Int) (c : Nat) (hc : c + 1 < n) (h : ∀ i, i < n → M i c = M i (c + 1)) : detN n M = 0 := by
  induction n generalizing M c with
  | zero => omega
  | succ n ih =>
    simp only [detN]
    rw [sumN_two (c := c) hc]
    · have e : detN n (fun i j => M (i + 1) (skip c j)) = detN n (fun i j => M (i + 1) (skip (c + 1) j)) := by
        refine detN_congr fun i j hi hj => ?_
        by_cases e : j = c
        · subst e
          rw [show skip j j = j + 1 by simp [skip], show skip (j + 1) j = j by simp [skip]]
          exact (h (i + 1) (by omega)).symm
        · rw [show skip c j = skip (c + 1) j by unfold skip; split <;> split <;> omega]
      rw [e, h 0 (by omega), sgn_succ]
      grind
    · intro k hk h1 h2
      rw [ih (fun i j => M (i + 1) (skip k j)) (place k c) (by unfold place; split <;> omega)]
      · simp
      · intro i hi
        have e1 : skip k (place k c) = c := skip_place h1
        have e2 : skip k (place k c + 1) = c + 1 := by unfold skip place; split <;> split <;> omega
        show M (i + 1) (skip k (place k c)) = M (i + 1) (skip k (place k c + 1))
        rw [e1, e2]
        exact h (i + 1) (by omega)
/-- Swapping two neighbouring columns. -/
theorem setCol_eq (M : Nat → Nat → Int) (c : Nat) : setCol M c (fun i => M i c) = M := by
  funext i j
  unfold setCol
  split
  · next h => rw [h]
  · rfl
theorem setCol_comm (M : Nat → Nat → Int) {c d : Nat} (h : c ≠ d) (u v : Nat → Int) : setCol (setCol M c u) d v = setCol (setCol M d v) c u := by
  funext i j
  unfold setCol
  by_cases a : j = c
  · rw [if_pos a, if_neg (by omega), if_pos a]
  · rw [if_neg a, if_neg a]
theorem detN_swap (n : Nat) (M : Nat → Nat → Int) (c : Nat) (hc : c + 1 < n) (u v : Nat → Int) :
    detN n (setCol (setCol M c u) (c + 1) v) = - detN n (setCol (setCol M c v) (c + 1) u) := by
  have z : ∀ x : Nat → Int, detN n (setCol (setCol M c x) (c + 1) x) = 0 := fun x => detN_eq_next n _ c hc fun i _ => by
    simp [setCol]
  have lin1 : ∀ x y : Nat → Int, ∀ w : Nat → Int, detN n (setCol (setCol M c w) (c + 1) fun i => x i + y i) = detN n (setCol (setCol M c w) (c + 1) x) + detN n (setCol (setCol M c w) (c + 1) y) := fun x y w => by
    have := detN_lin n (setCol M c w) (c + 1) hc 1 1 x y
    simpa using this
  have lin2 : ∀ x y : Nat → Int, ∀ w : Nat → Int, detN n (setCol (setCol M c fun i => x i + y i) (c + 1) w) = detN n (setCol (setCol M c x) (c + 1) w) + detN n (setCol (setCol M c y) (c + 1) w) := fun x y w => by
    have hne : c ≠ c + 1 := by omega
    rw [setCol_comm M hne (fun i => x i + y i) w, setCol_comm M hne x w, setCol_comm M hne y w]
    have := detN_lin n (setCol M (c + 1) w) c (by omega) 1 1 x y
    simpa using this
  have h := z fun i => u i + v i
  rw [lin1, lin2, lin2, z u, z v] at h
  omega
/-- Two equal columns. -/
theorem detN_eq_far (n : Nat) (d : Nat) (M : Nat → Nat → Int) (c : Nat) (hc : c + d + 1 < n) (h : ∀ i, i < n → M i c = M i (c + d + 1)) : detN n M = 0 := by
  induction d generalizing M with
  | zero => exact detN_eq_next n M c hc h
  | succ d ih =>
    have e : M = setCol (setCol M (c + d + 1) fun i => M i (c + d + 1)) (c + d + 1 + 1) fun i => M i (c + d + 1 + 1) := by
      rw [setCol_eq, setCol_eq]
    rw [e, detN_swap n M (c + d + 1) (by omega)]
    rw [ih]
    · rfl
    · omega
    · intro i hi
      simp only [setCol]
      rw [if_neg (by omega), if_neg (by omega), if_neg (by omega), if_true]
      exact h i hi
theorem detN_eq_cols (n : Nat) (M : Nat → Nat → Int) {a b : Nat} (ha : a < n) (hb : b < n) (hab : a ≠ b) (h : ∀ i, i < n → M i a = M i b) : detN n M = 0 := by
  rcases Nat.lt_or_ge a b with hlt | hge
  · exact detN_eq_far n (b - a - 1) M a (by omega) fun i hi => by rw [show a + (b - a - 1) + 1 = b by omega]; exact h i hi
  · exact detN_eq_far n (a - b - 1) M b (by omega) fun i hi => by rw [show b + (a - b - 1) + 1 = a by omega]; exact (h i hi).symm
theorem detN_zero_col (n : Nat) (M : Nat → Nat → Int) (c : Nat) (hc : c < n) : detN n (setCol M c fun _ => 0) = 0 := by
  have := detN_lin n M c hc 0 0 (fun _ => 0) (fun _ => 0)
  simpa using this
theorem detN_sum_col (n : Nat) (M : Nat → Nat → Int) (c : Nat) (hc : c < n) (m : Nat) (s : Nat → Int) (u : Nat → Nat → Int) :
    detN n (setCol M c fun i => sumN m fun k => s k * u k i) = sumN m fun k => s k * detN n (setCol M c (u k)) := by
  induction m with
  | zero => exact detN_zero_col n M c hc
  | succ m ih =>
    simp only [sumN]
    have := detN_lin n M c hc 1 (s m) (fun i => sumN m fun k => s k * u k i) (u m)
    simp only [Int.one_mul] at this
    rw [this, ih]
end Go.Proofs.YtjfggodnfoknfaaGreatDoor

namespace Go.Proofs.YtjfggodnfoknfaaGreatDoor

theorem sumN_swap (n m : Nat) (f : Nat → Nat → Int) : sumN n (fun i => sumN m fun j => f i j) = sumN m fun j => sumN n fun i => f i j := by
  induction n with
  | zero => exact (sumN_zero fun j _ => rfl).symm
  | succ n ih => simp only [sumN]; rw [ih, ← sumN_add]
def delta (j : Nat) : Nat → Int := fun i => if i = j then 1 else 0
theorem sum_delta {n i : Nat} (hi : i < n) (f : Nat → Int) : sumN n (fun k => f k * delta k i) = f i := by
  rw [sumN_one (c := i) hi]
  · simp [delta]
  · intro k _ hne
    show f k * (if i = k then 1 else 0) = 0
    rw [if_neg (fun e : i = k => hne e.symm)]; simp
/-- The table of the cofactors. -/
def cof (n : Nat) (M : Nat → Nat → Int) (v j : Nat) : Int := detN n (setCol M v (delta j))
theorem cof_col (n : Nat) (M : Nat → Nat → Int) (v : Nat) (hv : v < n) (d : Nat → Int) : detN n (setCol M v d) = sumN n fun j => d j * cof n M v j := by
  have h := detN_sum_col n M v hv n d delta
  unfold cof
  rw [← h]
  refine detN_congr fun i j hi _ => ?_
  unfold setCol
  split
  · exact (sum_delta hi d).symm
  · rfl
theorem cof_mul (n : Nat) (M : Nat → Nat → Int) (v c : Nat) (hv : v < n) (hc : c < n) : (sumN n fun j => M j c * cof n M v j) = if v = c then detN n M else 0 := by
  rw [← cof_col n M v hv fun j => M j c]
  split
  · next h => subst h; rw [setCol_eq]
  · next h =>
    refine detN_eq_cols n _ hv hc h fun i _ => ?_
    simp only [setCol, if_true, if_neg (fun e : c = v => h e.symm)]

def Inj (n : Nat) (M : Nat → Nat → Int) : Prop := ∀ r : Nat → Int, (∀ i, i < n → sumN n (fun j => M i j * r j) = 0) → ∀ i, i < n → r i = 0
def Sym (M : Nat → Nat → Int) : Prop := ∀ i j, M i j = M j i
theorem det_last (n : Nat) (M : Nat → Nat → Int) : detN (n + 1) (setCol M n (delta n)) = detN n M := by
  induction n generalizing M with
  | zero => simp [detN, sumN, setCol, delta, sgn]
  | succ n ih =>
    have h2 : detN (n + 1) M = sumN (n + 1) fun k => sgn k * M 0 k * detN n fun i j => M (i + 1) (skip k j) := rfl
    have h1 : detN (n + 1 + 1) (setCol M (n + 1) (delta (n + 1))) = sumN (n + 1 + 1) fun k => sgn k * setCol M (n + 1) (delta (n + 1)) 0 k * detN (n + 1) fun i j => setCol M (n + 1) (delta (n + 1)) (i + 1) (skip k j) := rfl
    rw [h1, h2]
    simp only [sumN]
    have e0 : setCol M (n + 1) (delta (n + 1)) 0 (n + 1) = 0 := by simp [setCol, delta]
    have key : ∀ k, k < n + 1 → sgn k * setCol M (n + 1) (delta (n + 1)) 0 k * (detN (n + 1) fun i j => setCol M (n + 1) (delta (n + 1)) (i + 1) (skip k j)) = sgn k * M 0 k * detN n fun i j => M (i + 1) (skip k j) := by
      intro k hk
      have hne : k ≠ n + 1 := by omega
      rw [minor_setCol hne, show place k (n + 1) = n by unfold place; rw [if_neg (by omega)]; rfl, show (fun i => delta (n + 1) (i + 1)) = delta n by funext i; simp [delta], ih]
      simp only [setCol, if_neg hne]
    rw [e0, sumN_congr fun k hk => key k (by omega), key n (by omega)]
    simp
theorem det_ne {n : Nat} {M : Nat → Nat → Int} (hs : Sym M) (hi : ∀ m, m ≤ n → Inj m M) : detN n M ≠ 0 := by
  induction n with
  | zero => simp [detN]
  | succ n ih =>
    intro h0
    have hz : ∀ v, v < n + 1 → ∀ j, j < n + 1 → cof (n + 1) M v j = 0 := by
      intro v hv
      refine hi (n + 1) (Nat.le_refl _) _ fun c hc => ?_
      have h := cof_mul (n + 1) M v c hv hc
      rw [show (if v = c then detN (n + 1) M else 0) = 0 by split <;> simp [h0]] at h
      rw [← h]
      exact sumN_congr fun j _ => by rw [hs c j]
    have := hz n (by omega) n (by omega)
    unfold cof at this
    rw [det_last] at this
    exact ih (fun m hm => hi m (by omega)) this
end Go.Proofs.YtjfggodnfoknfaaGreatDoor

namespace Go.Proofs.YtjfggodnfoknfaaGreatDoor

def lap (n : Nat) (w : Nat → Nat → Int) (s : Nat → Int) (v : Nat) : Int := sumN n fun u => w v u * (s v - s u)
/-- Every proper part of the vertices has an edge to the others. -/
def Conn (n : Nat) (w : Nat → Nat → Int) : Prop := ∀ A : Nat → Bool, (∃ v, v < n ∧ A v = true) → (∃ v, v < n ∧ A v = false) → ∃ v u, v < n ∧ u < n ∧ A v = true ∧ A u = false ∧ 0 < w v u
theorem sumN_nonneg {n : Nat} {f : Nat → Int} (h : ∀ i, i < n → 0 ≤ f i) : 0 ≤ sumN n f := by
  induction n with
  | zero => exact Int.le_refl _
  | succ n ih => have := ih fun i hi => h i (by omega); have := h n (by omega); simp only [sumN]; omega
theorem sumN_ge {n c : Nat} {f : Nat → Int} (h : ∀ i, i < n → 0 ≤ f i) (hc : c < n) : f c ≤ sumN n f := by
  induction n with
  | zero => omega
  | succ n ih =>
    simp only [sumN]
    by_cases e : c = n
    · have := sumN_nonneg (n := n) (f := f) fun i hi => h i (by omega)
      rw [e]; omega
    · have := ih (fun i hi => h i (by omega)) (by omega)
      have := h n (by omega)
      omega
theorem sumN_mono {n : Nat} {f g : Nat → Int} (h : ∀ i, i < n → f i ≤ g i) : sumN n f ≤ sumN n g := by
  induction n with
  | zero => exact Int.le_refl _
  | succ n ih => have := ih fun i hi => h i (by omega); have := h n (by omega); simp only [sumN]; omega
theorem sumN_neg (n : Nat) (f : Nat → Int) : (sumN n fun i => - f i) = - sumN n f := by
  induction n with
  | zero => rfl
  | succ n ih => simp only [sumN, ih]; omega
theorem max_at (n : Nat) (hn : 1 ≤ n) (s : Nat → Int) : ∃ v, v < n ∧ ∀ u, u < n → s u ≤ s v := by
  induction n with
  | zero => omega
  | succ n ih =>
    by_cases h : n = 0
    · subst h; exact ⟨0, by omega, fun u hu => by rw [show u = 0 by omega]; exact Int.le_refl _⟩
    · obtain ⟨v, hv, hm⟩ := ih (by omega)
      by_cases c : s v ≤ s n
      · refine ⟨n, by omega, fun u hu => ?_⟩
        by_cases e : u = n
        · rw [e]; exact Int.le_refl _
        · have := hm u (by omega); omega
      · refine ⟨v, by omega, fun u hu => ?_⟩
        by_cases e : u = n
        · rw [e]; omega
        · exact hm u (by omega)
theorem lap_neg (n : Nat) (w : Nat → Nat → Int) (s : Nat → Int) (v : Nat) : lap n w (fun u => - s u) v = - lap n w s v := by
  unfold lap
  rw [← sumN_neg]
  exact sumN_congr fun u _ => by grind
/-- Where s is greatest the Laplacian is positive if a neighbour has less. -/
theorem lap_pos {n : Nat} {w : Nat → Nat → Int} {s : Nat → Int} (hw : ∀ v u, 0 ≤ w v u) {v u : Nat} (hu : u < n) (hm : ∀ x, x < n → s x ≤ s v) (h1 : 0 < w v u) (h2 : s u < s v) : 0 < lap n w s v := by
  have h := sumN_ge (n := n) (c := u) (f := fun u => w v u * (s v - s u)) (fun i hi => Int.mul_nonneg (hw v i) (by have := hm i hi; omega)) hu
  have := Int.mul_pos h1 (show 0 < s v - s u by omega)
  have h' : w v u * (s v - s u) ≤ lap n w s v := h
  omega
theorem dirichlet_le {n : Nat} {w : Nat → Nat → Int} {s : Nat → Int} (hw : ∀ v u, 0 ≤ w v u) (hc : Conn n w) (B : Nat → Bool) {q : Nat} (hq : q < n) (hB : B q = true)
    (h1 : ∀ v, v < n → B v = false → lap n w s v ≤ 0) (h2 : ∀ v, v < n → B v = true → s v ≤ 0) : ∀ v, v < n → s v ≤ 0 := by
  obtain ⟨m, hm, hmax⟩ := max_at n (by omega) s
  have key : s m ≤ 0 := by
    rcases Int.lt_or_le 0 (s m) with hp | hp
    · obtain ⟨v, u, hv, hu, ha, hb, hwu⟩ := hc (fun x => decide (s x = s m)) ⟨m, hm, by simp⟩ ⟨q, hq, by have := h2 q hq hB; simp; omega⟩
      simp only [decide_eq_true_eq] at ha
      simp only [decide_eq_false_iff_not] at hb
      have hBv : B v = false := by
        cases hBv : B v with
        | false => rfl
        | true => have := h2 v hv hBv; omega
      have := h1 v hv hBv
      have := lap_pos hw hu (s := s) (v := v) (fun x hx => by rw [ha]; exact hmax x hx) hwu (by have := hmax u hu; omega)
      omega
    · exact hp
  intro v hv
  have := hmax v hv
  omega
theorem dirichlet_zero {n : Nat} {w : Nat → Nat → Int} {s : Nat → Int} (hw : ∀ v u, 0 ≤ w v u) (hc : Conn n w) (B : Nat → Bool) {q : Nat} (hq : q < n) (hB : B q = true)
    (h1 : ∀ v, v < n → B v = false → lap n w s v = 0) (h2 : ∀ v, v < n → B v = true → s v = 0) : ∀ v, v < n → s v = 0 := by
  intro v hv
  have a := dirichlet_le hw hc B hq hB (s := s) (fun x hx hb => by rw [h1 x hx hb]; exact Int.le_refl _) (fun x hx hb => by rw [h2 x hx hb]; exact Int.le_refl _) v hv
  have b := dirichlet_le hw hc B hq hB (s := fun x => - s x) (fun x hx hb => by rw [lap_neg, h1 x hx hb]; exact Int.le_refl _) (fun x hx hb => by rw [h2 x hx hb]; exact Int.le_refl _) v hv
  omega

/-- The edges from v that leave A. -/
def outw (n : Nat) (w : Nat → Nat → Int) (A : Nat → Bool) (v : Nat) : Int := sumN n fun u => if A u then 0 else w v u
/-- No part without q can fire: P17's reduced, but for the debts. -/
def Tight (n : Nat) (w : Nat → Nat → Int) (q : Nat) (d : Nat → Int) : Prop := ∀ A : Nat → Bool, A q = false → (∃ v, v < n ∧ A v = true) → ∃ v, v < n ∧ A v = true ∧ d v < outw n w A v
theorem tight_le {n : Nat} {w : Nat → Nat → Int} {s d : Nat → Int} {q : Nat} (hw : ∀ v u, 0 ≤ w v u) (hq : q < n) (ht : Tight n w q d) (hpos : ∀ v, v < n → v ≠ q → 0 ≤ d v - lap n w s v) : ∀ v, v < n → s v ≤ s q := by
  obtain ⟨m, hm, hmax⟩ := max_at n (by omega) s
  have key : s m ≤ s q := by
    rcases Int.lt_or_le (s q) (s m) with hp | hp
    · obtain ⟨v, hv, ha, hlt⟩ := ht (fun x => decide (s x = s m)) (by simp; omega) ⟨m, hm, by simp⟩
      simp only [decide_eq_true_eq] at ha
      have hle : outw n w (fun x => decide (s x = s m)) v ≤ lap n w s v := by
        unfold outw lap
        refine sumN_mono fun u hu => ?_
        by_cases e : s u = s m
        · simp [e, ha]
        · simp only [e, decide_false, Bool.false_eq_true, if_false]
          have h1 := hmax u hu
          have := Int.mul_le_mul_of_nonneg_left (show (1 : Int) ≤ s v - s u by omega) (hw v u)
          omega
      have hne : v ≠ q := by intro e; rw [e] at ha; omega
      have := hpos v hv hne
      omega
    · exact hp
  intro v hv
  have := hmax v hv
  omega
/-- Two reduced divisors that differ by a script are equal. -/
theorem reduced_unique {n : Nat} {w : Nat → Nat → Int} {s d d' : Nat → Int} {q : Nat} (hw : ∀ v u, 0 ≤ w v u) (hq : q < n) (ht : Tight n w q d) (ht' : Tight n w q d')
    (hd : ∀ v, v < n → v ≠ q → 0 ≤ d v) (hd' : ∀ v, v < n → v ≠ q → 0 ≤ d' v) (he : ∀ v, v < n → d' v = d v - lap n w s v) : (∀ v, v < n → s v = s q) ∧ ∀ v, v < n → d v = d' v := by
  have a := tight_le (s := s) hw hq ht fun v hv hne => by rw [← he v hv]; exact hd' v hv hne
  have b := tight_le (s := fun v => - s v) hw hq ht' fun v hv hne => by rw [lap_neg, he v hv]; have := hd v hv hne; omega
  have c : ∀ v, v < n → s v = s q := fun v hv => by have := a v hv; have := b v hv; omega
  refine ⟨c, fun v hv => ?_⟩
  rw [he v hv]
  have : lap n w s v = 0 := sumN_zero fun u hu => by rw [c v hv, c u hu]; simp
  omega
end Go.Proofs.YtjfggodnfoknfaaGreatDoor

namespace Go.Proofs.YtjfggodnfoknfaaGreatDoor

def lapT (n : Nat) (w : Nat → Nat → Int) (i j : Nat) : Int := (if i = j then sumN n (w i) else 0) - w i j
theorem lap_table {n : Nat} {w : Nat → Nat → Int} {s : Nat → Int} {v : Nat} (hv : v < n) : lap n w s v = sumN n fun u => lapT n w v u * s u := by
  have e1 : (sumN n fun u => lapT n w v u * s u) = (sumN n fun u => (if v = u then sumN n (w v) else 0) * s u) + sumN n fun u => -(w v u * s u) := by
    rw [← sumN_add]
    exact sumN_congr fun u _ => by unfold lapT; grind
  have e2 : (sumN n fun u => (if v = u then sumN n (w v) else 0) * s u) = s v * sumN n (w v) := by
    rw [sumN_one (c := v) hv]
    · rw [if_pos rfl, Int.mul_comm]
    · intro u _ hne; rw [if_neg (fun e => hne e.symm)]; simp
  rw [e1, e2, ← sumN_mul, ← sumN_add]
  exact sumN_congr fun u _ => by grind
theorem sumN_skip (n q : Nat) (hq : q < n + 1) (f : Nat → Int) : sumN (n + 1) f = f q + sumN n fun j => f (skip q j) := by
  induction n with
  | zero => rw [show q = 0 by omega]; simp [sumN]
  | succ n ih =>
    by_cases e : q = n + 1
    · subst e
      have : (sumN (n + 1) fun j => f (skip (n + 1) j)) = sumN (n + 1) f := sumN_congr fun j hj => by unfold skip; rw [if_pos hj]
      rw [this]
      simp only [sumN]; omega
    · have h1 : sumN (n + 1 + 1) f = sumN (n + 1) f + f (n + 1) := rfl
      have h2 : (sumN (n + 1) fun j => f (skip q j)) = (sumN n fun j => f (skip q j)) + f (skip q n) := rfl
      rw [h1, h2, ih (by omega), show skip q n = n + 1 by unfold skip; rw [if_neg (by omega)]]
      omega
theorem sumN_cut {n m : Nat} (hm : m ≤ n) {f : Nat → Int} (h : ∀ j, m ≤ j → j < n → f j = 0) : sumN n f = sumN m f := by
  induction n with
  | zero => rw [show m = 0 by omega]
  | succ n ih =>
    by_cases e : m = n + 1
    · rw [e]
    · simp only [sumN]
      rw [ih (by omega) fun j h1 h2 => h j h1 (by omega), h n (by omega) (by omega)]
      omega
/-- The reduced Laplacian at q. -/
def redT (n : Nat) (w : Nat → Nat → Int) (q : Nat) (i j : Nat) : Int := lapT n w (skip q i) (skip q j)
theorem redT_sym {n : Nat} {w : Nat → Nat → Int} (hs : ∀ v u, w v u = w u v) (q : Nat) : Sym (redT n w q) := by
  intro i j
  unfold redT lapT
  rw [hs (skip q i) (skip q j)]
  by_cases e : skip q i = skip q j
  · rw [e]
  · rw [if_neg e, if_neg (fun h => e h.symm)]
theorem skip_lt {n q j : Nat} (hj : j < n) : skip q j < n + 1 := by unfold skip; split <;> omega
theorem place_skip (q j : Nat) : place q (skip q j) = j := by
  unfold place skip
  by_cases a : j < q
  · rw [if_pos a, if_pos a]
  · rw [if_neg a, if_neg (by omega)]; omega
theorem redT_mul {n : Nat} {w : Nat → Nat → Int} {q : Nat} (hq : q < n + 1) {s : Nat → Int} (h0 : s q = 0) {i : Nat} (hi : i < n) : (sumN n fun j => redT (n + 1) w q i j * s (skip q j)) = lap (n + 1) w s (skip q i) := by
  rw [lap_table (skip_lt hi), sumN_skip n q hq, h0]
  simp [redT]
theorem redT_inj {n : Nat} {w : Nat → Nat → Int} (hw : ∀ v u, 0 ≤ w v u) (hc : Conn (n + 1) w) {q : Nat} (hq : q < n + 1) {m : Nat} (hm : m ≤ n) : Inj m (redT (n + 1) w q) := by
  intro r hr i hi
  have hz := dirichlet_zero (s := fun x => if x = q then 0 else if place q x < m then r (place q x) else 0) hw hc (fun x => decide (x = q) || decide (m ≤ place q x)) hq (by simp) (fun v hv hb => by
    simp only [Bool.or_eq_false_iff, decide_eq_false_iff_not] at hb
    obtain ⟨b1, b2⟩ := hb
    have e : skip q (place q v) = v := skip_place (fun e => b1 e.symm)
    have := redT_mul (w := w) hq (s := fun x => if x = q then 0 else if place q x < m then r (place q x) else 0) (if_pos rfl) (i := place q v) (by omega)
    rw [e] at this
    rw [← this, sumN_cut hm]
    · rw [← hr (place q v) (by omega)]
      refine sumN_congr fun j hj => ?_
      rw [if_neg (skip_ne q j), place_skip, if_pos hj]
    · intro j hj _
      rw [if_neg (skip_ne q j), place_skip, if_neg (by omega)]
      simp) (fun v hv hb => by
    simp only [Bool.or_eq_true, decide_eq_true_eq] at hb
    by_cases e : v = q
    · exact if_pos e
    · show (if v = q then 0 else if place q v < m then r (place q v) else 0) = 0
      rw [if_neg e, if_neg (by omega)])
  have := hz (skip q i) (skip_lt (by omega))
  simp only [if_neg (skip_ne q i), place_skip, if_pos hi] at this
  exact this
theorem red_ne {n : Nat} {w : Nat → Nat → Int} (hw : ∀ v u, 0 ≤ w v u) (hs : ∀ v u, w v u = w u v) (hc : Conn (n + 1) w) {q : Nat} (hq : q < n + 1) : detN n (redT (n + 1) w q) ≠ 0 :=
  det_ne (redT_sym hs q) fun _ hm => redT_inj hw hc hq hm
/-- All that a script moves sums to 0. -/
theorem lap_sum {n : Nat} {w : Nat → Nat → Int} (hs : ∀ v u, w v u = w u v) (s : Nat → Int) : (sumN n fun v => lap n w s v) = 0 := by
  have e1 : (sumN n fun v => lap n w s v) = (sumN n fun v => sumN n fun u => w v u * s v) + -(sumN n fun v => sumN n fun u => w v u * s u) := by
    rw [← sumN_neg, ← sumN_add]
    refine sumN_congr fun v _ => ?_
    unfold lap
    rw [← sumN_neg, ← sumN_add]
    exact sumN_congr fun u _ => by grind
  have e2 : (sumN n fun v => sumN n fun u => w v u * s u) = sumN n fun v => sumN n fun u => w v u * s v := by
    rw [sumN_swap]
    exact sumN_congr fun u _ => sumN_congr fun v _ => by rw [hs v u]
  rw [e1, e2]; omega
end Go.Proofs.YtjfggodnfoknfaaGreatDoor

