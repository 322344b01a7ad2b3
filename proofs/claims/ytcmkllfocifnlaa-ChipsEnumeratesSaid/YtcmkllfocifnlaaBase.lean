/- Words for memory: a slice of ints that reads as a list; a slice of values; kept over whatever leaves old blocks alone. -/
import Derived.Test.YtcmkllfocifnlaaRows
import Derived.WalkKit
import Derived.WalkSpells
import Derived.WalkLawsBesides
import Derived.Lib.Hide
import Derived.Deep.QuietTactic
import Derived.BigQuiet
import Derived.Deep.AppendLies
import Derived.Deep.Draws
import Derived.StillTailTactics
import Derived.Deep.DeepFit
namespace Go.Proofs.Ytcmkllfocifnlaa
open Go.RowKit

theorem block_of_add (a : Addr) (n : Nat) : (a.add n).block = a.block := by unfold Addr.add; split <;> rfl
theorem add_of_add (a : Addr) (i j : Nat) : (a.add i).add j = a.add (i + j) := by
  unfold Addr.add
  by_cases hi : i = 0 <;> by_cases hj : j = 0 <;> simp [hi, hj, Nat.add_assoc]

/-- The slice value v reads as the one-cell values us. -/
def RV (w : World) (v : Value) (us : List Value) : Prop :=
  ∃ A c, v = .slice A us.length c ∧ us.length ≤ c ∧ us.length ≤ 17592186044415 ∧
    ∀ k, k < us.length → ∃ ad, A = some ad ∧ ad.block < w.heap.size ∧ w.cell? (ad.add k) = us[k]?

/-- The slice value v reads as the ints zs. -/
def RI (w : World) (v : Value) (zs : List Int) : Prop := RV w v (zs.map (.int .i64))

theorem RV.keep {w w' : World} {v : Value} {us : List Value} (h : RV w v us) (hs : w.heap.size ≤ w'.heap.size)
    (hk : ∀ p : Addr, p.block < w.heap.size → w'.cell? p = w.cell? p) : RV w' v us := by
  obtain ⟨A, c, h1, h2, h3, h4⟩ := h
  refine ⟨A, c, h1, h2, h3, fun k hkl => ?_⟩
  obtain ⟨ad, e, hb, hc⟩ := h4 k hkl
  exact ⟨ad, e, by omega, (hk _ (by rw [block_of_add]; exact hb)).trans hc⟩
theorem RV.below {w w' : World} {v : Value} {us : List Value} (h : RV w v us) (hb : Below w.heap.size w w') : RV w' v us :=
  h.keep hb.size fun _ hp => hb.cell hp
theorem RV.nil_ (w : World) : RV w (.slice none 0 0) [] := ⟨none, 0, rfl, by simp, by simp, fun k hk => by simp at hk⟩
theorem RI.below {w w' : World} {v : Value} {zs : List Int} (h : RI w v zs) (hb : Below w.heap.size w w') : RI w' v zs := RV.below h hb
theorem RI.nil_ (w : World) : RI w (.slice none 0 0) [] := RV.nil_ w
theorem RI.open_ {w : World} {v : Value} {zs : List Int} (h : RI w v zs) : ∃ A c, v = .slice A zs.length c ∧ zs.length ≤ c ∧ zs.length ≤ 17592186044415 ∧
    ∀ k, k < zs.length → ∃ ad z, A = some ad ∧ ad.block < w.heap.size ∧ Hid (zs[k]? = some z) ∧ w.cell? (ad.add k) = some (.int .i64 z) := by
  obtain ⟨A, c, h1, h2, h3, h4⟩ := h
  simp only [List.length_map] at h1 h2 h3 h4
  refine ⟨A, c, h1, h2, h3, fun k hk => ?_⟩
  obtain ⟨ad, e, hb, hc⟩ := h4 k hk
  refine ⟨ad, zs[k], e, hb, List.getElem?_eq_getElem hk, hc.trans ?_⟩
  simp [List.getElem?_map, List.getElem?_eq_getElem hk]
theorem RI.mk_ {w : World} {A : Option Addr} {c : Nat} {zs : List Int} (h2 : zs.length ≤ c) (h3 : zs.length ≤ 17592186044415)
    (h4 : ∀ k z, zs[k]? = some z → ∃ ad, A = some ad ∧ ad.block < w.heap.size ∧ w.cell? (ad.add k) = some (.int .i64 z)) : RI w (.slice A zs.length c) zs := by
  refine ⟨A, c, by simp, by simpa using h2, by simpa using h3, fun k hk => ?_⟩
  simp only [List.length_map] at hk
  obtain ⟨ad, e, hb, hc⟩ := h4 k zs[k] (List.getElem?_eq_getElem hk)
  refine ⟨ad, e, hb, hc.trans ?_⟩
  simp [List.getElem?_map, List.getElem?_eq_getElem hk]

theorem RI.len {w : World} {v : Value} {zs : List Int} (h : RI w v zs) : zs.length ≤ 17592186044415 := by
  obtain ⟨A, c, _, _, h, _⟩ := RI.open_ h; exact h

theorem drop_at {α : Type} {l : List α} {k : Nat} {x : α} (h : Hid (l[k]? = some x)) : l.drop k = x :: l.drop (k + 1) := by
  have h' := List.getElem?_eq_some_iff.1 h.out
  obtain ⟨hk, rfl⟩ := h'
  exact List.drop_eq_getElem_cons hk
/-- The slice value v reads as slices of ints. -/
def RR (w : World) (v : Value) (zss : List (List Int)) : Prop :=
  ∃ us : List Value, RV w v us ∧ us.length = zss.length ∧ ∀ (k : Nat) (zs : List Int), zss[k]? = some zs → ∃ u, us[k]? = some u ∧ RI w u zs
theorem RR.below {w w' : World} {v : Value} {zss : List (List Int)} (h : RR w v zss) (hb : Below w.heap.size w w') : RR w' v zss := by
  obtain ⟨us, h1, h2, h3⟩ := h
  refine ⟨us, h1.below hb, h2, fun k zs hk => ?_⟩
  obtain ⟨u, e, hr⟩ := h3 k zs hk
  exact ⟨u, e, hr.below hb⟩
theorem RR.open_ {w : World} {v : Value} {zss : List (List Int)} (h : RR w v zss) : ∃ A c, v = .slice A zss.length c ∧ zss.length ≤ c ∧ zss.length ≤ 17592186044415 ∧
    ∀ k, k < zss.length → ∃ ad zs A1 c1, A = some ad ∧ ad.block < w.heap.size ∧ Hid (zss[k]? = some zs) ∧ w.cell? (ad.add k) = some (.slice A1 zs.length c1) ∧ RI w (.slice A1 zs.length c1) zs := by
  obtain ⟨us, ⟨A, c, h1, h2, h3, h4⟩, hl, hu⟩ := h
  rw [hl] at h1 h2 h3 h4
  refine ⟨A, c, h1, h2, h3, fun k hk => ?_⟩
  obtain ⟨ad, e, hb, hc⟩ := h4 k hk
  obtain ⟨u, hu1, hr⟩ := hu k zss[k] (List.getElem?_eq_getElem hk)
  obtain ⟨A1, c1, rfl, _⟩ := hr.open_
  exact ⟨ad, zss[k], A1, c1, e, hb, List.getElem?_eq_getElem hk, hc.trans hu1, hr⟩
/-- The value v owns the one-cell values us, of element type e, from block B on. -/
def OV (w : World) (B : Nat) (e : TypeId) (v : Value) (us : List Value) : Prop := w.ownsRow B e 1 v us.length us ∧ us.length ≤ 17592186044415
def OI (w : World) (B : Nat) (v : Value) (zs : List Int) : Prop := OV w B 3 v (zs.map (.int .i64))
theorem OV.rv {w : World} {B : Nat} {e : TypeId} {v : Value} {us : List Value} (h : OV w B e v us) : RV w v us := by
  obtain ⟨h, hb⟩ := h
  rcases h.2 with ⟨rfl, hn⟩ | ⟨g, cap, cur, rfl, hg, hh, hn, hm, hs, ht⟩
  · exact ⟨none, 0, by rw [hn], by omega, hb, fun k hk => by omega⟩
  · refine ⟨some ⟨g, 0, none⟩, cap, rfl, hn, hb, fun k hk => ⟨_, rfl, ?_, ?_⟩⟩
    · rcases Nat.lt_or_ge g w.heap.size with hlt | hge
      · exact hlt
      · rw [Array.getElem?_eq_none hge] at hh; cases hh
    · rw [h.cells (g := g) rfl k _ (List.getElem?_eq_getElem hk), List.getElem?_eq_getElem hk]
theorem OI.ri {w : World} {B : Nat} {v : Value} {zs : List Int} (h : OI w B v zs) : RI w v zs := OV.rv h
theorem OV.below {w w' : World} {B : Nat} {e : TypeId} {v : Value} {us : List Value} (h : OV w B e v us) (hb : Below w.heap.size w w') : OV w' B e v us :=
  ⟨h.1.kept (row := none) ⟨hb.os, hb.tape, hb.output, hb.size, fun k hk _ => hb.block k hk⟩ (by cases v.ownBlock <;> simp), h.2⟩
theorem OV.mono {w : World} {B B' : Nat} {e : TypeId} {v : Value} {us : List Value} (h : OV w B e v us) (hB : B' ≤ B) : OV w B' e v us := by
  obtain ⟨⟨h1, h2⟩, h3⟩ := h
  refine ⟨⟨h1, ?_⟩, h3⟩
  rcases h2 with h2 | ⟨g, cap, cur, r1, r2, r3⟩
  · exact .inl h2
  · exact .inr ⟨g, cap, cur, r1, by omega, r3⟩
theorem OV.mono_own {w : World} {B B' : Nat} {e : TypeId} {size n : Nat} {v : Value} {us : List Value} (h : w.ownsRow B e size v n us) (hB : B' ≤ B) : w.ownsRow B' e size v n us := by
  obtain ⟨h1, h2⟩ := h
  refine ⟨h1, ?_⟩
  rcases h2 with h2 | ⟨g, cap, cur, r1, r2, r3⟩
  · exact .inl h2
  · exact .inr ⟨g, cap, cur, r1, by omega, r3⟩
theorem OI.below {w w' : World} {B : Nat} {v : Value} {zs : List Int} (h : OI w B v zs) (hb : Below w.heap.size w w') : OI w' B v zs := OV.below h hb
theorem OV.nil_ (w : World) (B : Nat) (e : TypeId) : OV w B e (.slice none 0 0) [] := ⟨World.ownsRow_nil _ _ _ _, by simp⟩
theorem OI.nil_ (w : World) (B : Nat) : OI w B (.slice none 0 0) [] := OV.nil_ _ _ _
theorem below_drewN {B : Nat} {a w : World} (h : Below B a w) (n : Nat) : Below B a (w.drewN n) := ⟨h.os, h.tape, h.output, h.size, h.block⟩
theorem below_grown {w w1 w' : World} (hg : w1.grownBy w' none) (hb : Below w.heap.size w w1) : Below w.heap.size w w' :=
  hb.grown hg hb.size (by simp)
theorem int_info : (Try.prog.info? 3).map (fun i => (i.zero, i.size, i.bytes)) = some (some (.int .i64 0), 1, 8) := by kernel_rfl
/-- A new block of values reads as them. -/
theorem RV.lit (w : World) (us : Array Value) (e : TypeId) (n : Nat) (hn : us.size = n) (hb : n ≤ 17592186044415) : RV (w.alloc (.cells us e)) (.slice (some ⟨w.heap.size, 0, none⟩) n n) us.toList := by
  have hn' : us.toList.length = n := by simpa using hn
  refine ⟨some ⟨w.heap.size, 0, none⟩, n, by rw [hn'], by rw [hn']; omega, by rw [hn']; omega, fun k hk => ⟨_, rfl, by simp, ?_⟩⟩
  rw [hn'] at hk
  have : ((⟨w.heap.size, 0, none⟩ : Addr).add k) = ⟨w.heap.size, k, none⟩ := by
    unfold Addr.add; split
    · next h => rw [h]
    · simp
  rw [this, cell_of_row (w.alloc (.cells us e)) w.heap.size k us e (0, 0) (heap_alloc_new w _)]
  simp
theorem below_alloc (w : World) (o : Obj) : Below w.heap.size w (w.alloc o) := (Below.refl _ _).alloc (Nat.le_refl _) o
theorem RR.lit1 {w : World} {v : Value} {zs : List Int} (e : TypeId) (h : RI w v zs) : RR (w.alloc (.cells #[v] e)) (.slice (some ⟨w.heap.size, 0, none⟩) 1 1) [zs] := by
  refine ⟨[v], RV.lit w #[v] e 1 rfl (by omega), rfl, fun k zs' hk => ?_⟩
  match k, hk with
  | 0, hk => simp at hk; subst hk; exact ⟨v, rfl, h.below (below_alloc w _)⟩
theorem RR.lit2 {w : World} {v u : Value} {zs ys : List Int} (e : TypeId) (h : RI w v zs) (h' : RI w u ys) : RR (w.alloc (.cells #[v, u] e)) (.slice (some ⟨w.heap.size, 0, none⟩) 2 2) [zs, ys] := by
  refine ⟨[v, u], RV.lit w #[v, u] e 2 rfl (by omega), rfl, fun k zs' hk => ?_⟩
  match k, hk with
  | 0, hk => simp at hk; subst hk; exact ⟨v, rfl, h.below (below_alloc w _)⟩
  | 1, hk => simp at hk; subst hk; exact ⟨u, rfl, h'.below (below_alloc w _)⟩
/-- A function value that computes F on ints in the world w and whatever follows it. -/
def Clo2 (P : Program) (w : World) (fv : Value) (F : Int → Int → Int) : Prop :=
  ∃ fn caps, fv = .func (.func fn) #[] caps ∧ (∀ args W, (callFunc fn args).run P W = .ok (.enter fn args) W) ∧ ∀ W, Below w.heap.size w W → ∀ x y, -1048576 ≤ x → x ≤ 1048576 → -1048576 ≤ y → y ≤ 1048576 → Calls P fn (#[.int .i64 x, .int .i64 y] ++ caps) W fun e w' => e = .returned (.int .i64 (F x y)) ∧ W = w'
def InB (k : Int) : Bool := decide (-1048576 ≤ k) && decide (k ≤ 1048576)
theorem inB_iff (k : Int) : InB k = true ↔ -1048576 ≤ k ∧ k ≤ 1048576 := by simp [InB]
end Go.Proofs.Ytcmkllfocifnlaa
