/- append onto a slice of the call's own, the source any slice that reads as a list; one store of a value into an own slice. -/
import Derived.Test.YtcmkllfocifnlaaBase
import Derived.Maps.AppendAt
namespace Go.Proofs.Ytcmkllfocifnlaa
open Go.RowKit

section
variable {P : Program} (w : World)
theorem run_appendV (t ty e : TypeId) (i : TypeInfo) (z : Value) (bytes : Nat) (ht : P.underlying t = some (.slice e)) (hi : P.info? e = some i) (hz : i.zero = some z)
    (hsize : i.size = 1) (hby : i.bytes = bytes) (hzs : z.cells.size = 1) (B : Nat) (v : Value) (us : List Value) (hown : OV w B e v us) (vx : Value) (news : List Value) (hr : RV w vx news)
    (h1 : ∀ u ∈ news, u.oneCell' = true) (hb1 : us.length + news.length ≤ 17592186044415) (hb2 : (us.length + news.length) * bytes ≤ 140737488355328) (hB : B ≤ w.heap.size) :
    ∃ v' w', (Builtin.append_ #[t, t] ty #[v, vx]).run P w = .ok v' w' ∧ OV w' B e v' (us ++ news) ∧ w.grownBy w' v.ownBlock ∧ (v'.ownBlock = v.ownBlock ∨ v'.ownBlock = some w.heap.size) := by
  obtain ⟨A, c, rfl, _, _, hc⟩ := hr
  rcases A with _ | ad
  · have hn : news = [] := by
      rcases Nat.eq_zero_or_pos news.length with h0 | h0
      · exact List.eq_nil_of_length_eq_zero h0
      · obtain ⟨_, h, _⟩ := hc 0 h0; cases h
    subst hn
    refine ⟨v, w, ?_, by simpa using hown, World.grownBy.refl w _, .inl rfl⟩
    rcases hown.1.2 with ⟨rfl, _⟩ | ⟨g, cap, cur, rfl, _, _, hnc, _⟩
    · simp [Builtin.append_, run_underlying ht, sizeOf, typeInfo, hi, Builtin.lenOf, Builtin.firstCells]
    · simp [Builtin.append_, run_underlying ht, sizeOf, typeInfo, hi, Builtin.lenOf, Builtin.firstCells, hnc, storeCells]
  · obtain ⟨v', w', hrun, h2, h3, _, h5⟩ := run_append_own_at (P := P) w B t ty e i z 1 bytes ht hi hz hsize hby hzs (by omega) v us.length us hown.1 ad news.length c news (by simp)
      (fun j u hu => by
        obtain ⟨hj, rfl⟩ := List.getElem?_eq_some_iff.1 hu
        obtain ⟨ad', he, _, hcc⟩ := hc j hj
        obtain rfl := Option.some.inj he
        exact hcc.trans hu) h1 (by unfold maxLen; omega) hb2 hB
    exact ⟨v', w', hrun, ⟨by simpa using h2, by simpa using hb1⟩, h3, h5⟩

theorem wpList_appendV {ops : Array Oper} {rest : List Oper} {o : Oper} {a : Act} {Q : Exit → Act → World → Prop} (hgd : o.guard = none) (s x : Operand) (t : TypeId)
    (ho : o.op = .call { callee := .builtin .append, args := #[s, x], argTypes := #[t, t] })
    (e : TypeId) (i : TypeInfo) (z : Value) (bytes : Nat) (ht : P.underlying t = some (.slice e)) (hi : P.info? e = some i) (hz : i.zero = some z)
    (hsize : i.size = 1) (hby : i.bytes = bytes) (hzs : z.cells.size = 1) (B : Nat) (v : Value) (us : List Value) (hs : a.eval s = v) (hown : OV w B e v us)
    (vx : Value) (news : List Value) (hx : a.eval x = vx) (hr : RV w vx news)
    (h1 : ∀ u ∈ news, u.oneCell' = true) (hb1 : us.length + news.length ≤ 17592186044415) (hb2 : (us.length + news.length) * bytes ≤ 140737488355328) (hB : B ≤ w.heap.size)
    (h : ∀ v' w', OV w' B e v' (us ++ news) → w.grownBy w' v.ownBlock → (v'.ownBlock = v.ownBlock ∨ v'.ownBlock = some w.heap.size) → wpList P ops Q rest (a.put o.dst v') w') : wpList P ops Q (o :: rest) a w := by
  refine wpList_plain hgd fun K hK => ?_
  obtain ⟨v', w', hrun, h2, h3, h4⟩ := run_appendV (P := P) w t o.type e i z bytes ht hi hz hsize hby hzs B v us hown vx news hr h1 hb1 hb2 hB
  unfold Oper.wp execOp
  simp only [ho, resolve, invoke, builtin, Sem.run_bind, Sem.run_pure, Result.andThen_ok, List.map_toArray, List.map_cons, List.map_nil, hs, hx, hrun]
  exact hK _ _ (h v' w' h2 h3 h4)
end
/-- An element of an own slice: its cell, and a store into it. -/
theorem OI.at_ {w : World} {B : Nat} {v : Value} {zs : List Int} (h : OI w B v zs) {k : Nat} (hk : k < zs.length) :
    ∃ g cap, v = .slice (some ⟨g, 0, none⟩) zs.length cap ∧ B ≤ g ∧ w.cell? ⟨g, k, none⟩ = some (.int .i64 (zs.getD k 0)) ∧ w.frozen? ⟨g, k, none⟩ = false ∧
      ∀ x : Int, OI (w.setCell ⟨g, k, none⟩ (.int .i64 x)) B (.slice (some ⟨g, 0, none⟩) zs.length cap) (zs.set k x) ∧ w.grownBy (w.setCell ⟨g, k, none⟩ (.int .i64 x)) (some g) := by
  have h' := h
  obtain ⟨h1, h2⟩ := h
  simp only [List.length_map] at h1 h2
  rcases h1.2 with ⟨_, hn⟩ | ⟨g, cap, cur, rfl, hg, hh, hn, hm, hs, ht⟩
  · omega
  · refine ⟨g, cap, rfl, hg, ?_, h1.frozenAt k, fun x => ?_⟩
    · rw [h1.cellAt k (by omega), List.getElem?_map, List.getElem?_eq_getElem hk]
      simp [List.getElem?_eq_getElem hk]
    · have := h1.stored k (.int .i64 x)
      exact ⟨⟨by rw [List.map_set, List.length_set, List.length_map]; exact this.1, by simpa using h2⟩, this.2⟩
theorem OI.at' {w : World} {B g n cap : Nat} {zs : List Int} (h : OI w B (.slice (some ⟨g, 0, none⟩) n cap) zs) {k : Nat} (hk : k < zs.length) :
    n = zs.length ∧ B ≤ g ∧ w.cell? ⟨g, k, none⟩ = some (.int .i64 (zs.getD k 0)) ∧ w.frozen? ⟨g, k, none⟩ = false ∧
      ∀ x : Int, OI (w.setCell ⟨g, k, none⟩ (.int .i64 x)) B (.slice (some ⟨g, 0, none⟩) n cap) (zs.set k x) ∧ w.grownBy (w.setCell ⟨g, k, none⟩ (.int .i64 x)) (some g) := by
  obtain ⟨g', cap', hv, h1, h2, h3, h4⟩ := h.at_ hk
  simp only [Value.slice.injEq, Option.some.injEq, Addr.mk.injEq, and_true] at hv
  obtain ⟨rfl, rfl, rfl⟩ := hv
  exact ⟨rfl, h1, h2, h3, h4⟩
theorem ints_one (zs : List Int) : ∀ u ∈ zs.map (Value.int .i64), u.oneCell' = true := by
  intro u hu; obtain ⟨z, _, rfl⟩ := List.mem_map.1 hu; rfl
/-- What the caller may say behind an append onto its own slice. -/
theorem below_own {w w0 w' : World} {B : Nat} {v : Value} {e : TypeId} {us : List Value} (hb : Below B w0 w) (hB : B ≤ w.heap.size) (h : OV w B e v us) (hg : w.grownBy w' v.ownBlock) : Below B w0 w' :=
  hb.grown hg hB fun k hk => (h.1.lt k hk).1
/-- Only draws have been made. -/
def Dr (w w' : World) : Prop := ∃ n, w' = w.drewN n
theorem Dr.refl (w : World) : Dr w w := ⟨0, rfl⟩
theorem Dr.drewN {w w' : World} (h : Dr w w') (n : Nat) : Dr w (w'.drewN n) := by obtain ⟨m, rfl⟩ := h; exact ⟨m + n, World.drewN_drewN ..⟩
theorem Dr.drew {w w' : World} (h : Dr w w') : Dr w w'.drew := h.drewN 1
theorem Dr.trans {a b c : World} (h : Dr a b) (k : Dr b c) : Dr a c := by obtain ⟨n, rfl⟩ := k; exact h.drewN n
theorem Dr.cell {w w' : World} (h : Dr w w') (a : Addr) : w'.cell? a = w.cell? a := by obtain ⟨n, rfl⟩ := h; rfl
theorem Dr.below {w w' : World} (h : Dr w w') (B : Nat) : Below B w w' := by obtain ⟨n, rfl⟩ := h; exact below_drewN (Below.refl _ _) n
theorem Dr.ri {w w' : World} {v : Value} {zs : List Int} (h : Dr w w') (hr : RI w v zs) : RI w' v zs := by obtain ⟨n, rfl⟩ := h; exact hr
theorem Dr.oi {w w' : World} {B : Nat} {v : Value} {zs : List Int} (h : Dr w w') (hr : OI w B v zs) : OI w' B v zs := by obtain ⟨n, rfl⟩ := h; exact hr
end Go.Proofs.Ytcmkllfocifnlaa
