/- A text's parts between bytes: the library's words and the reference's, one function. No program in sight. -/
import Derived.BigQuiet
import Derived.Deep.AppendLies
import Derived.Deep.DeepFit
import Derived.Lib.Hide
import Derived.Lib.IndexLaws
import Derived.Lib.SplitLaws
import Derived.StillTailTactics
import Derived.Test.YteamhbohgoclgaaGreatDoorProg
import Derived.WalkLawsBesides
import Derived.WalkSpells
set_option maxRecDepth 100000
set_option maxHeartbeats 16000000
namespace Go.Proofs.YteamhbohgoclgaaGreatDoor

def consH (x : UInt8) : List (List UInt8) -> List (List UInt8)
 | [] => [[x]]
 | h :: t => (x :: h) :: t
def splitL (c : UInt8) : List UInt8 -> List (List UInt8)
 | [] => [[]]
 | x :: r => if x = c then [] :: splitL c r else consH x (splitL c r)
theorem splitL_ne (c : UInt8) (l : List UInt8) : splitL c l ≠ [] := by
 cases l with
 | nil => simp [splitL]
 | cons x r =>
   rw [splitL]
   split
   · simp
   · cases splitL c r <;> simp [consH]
theorem index_one_cons (b c : UInt8) (l : List UInt8) (h : b ≠ c) : Go.Lib.index (b :: l) [c] = if Go.Lib.index l [c] == -1 then -1 else Go.Lib.index l [c] + 1 := by
 rw [Go.Lib.index]
 have : [c].isPrefixOf (b :: l) = false := by
   simp only [List.isPrefixOf, Bool.and_true, beq_eq_false_iff_ne, ne_eq]
   exact fun e => h e.symm
 rw [this]; simp
theorem index_one_eq (c : UInt8) (l : List UInt8) : Go.Lib.index (c :: l) [c] = 0 := by
 rw [Go.Lib.index]; simp [List.isPrefixOf]
theorem count_pos_index (c : UInt8) (l : List UInt8) {k : Nat} (h : Go.Lib.count l [c] = k + 1) : ∃ i : Nat, Go.Lib.index l [c] = i := by
 have h1 := Go.Lib.index_ge l [c]
 by_cases e : Go.Lib.index l [c] = -1
 · rw [Go.Lib.count_miss e] at h; omega
 · exact ⟨(Go.Lib.index l [c]).toNat, by omega⟩
theorem splitK_one (c : UInt8) : ∀ l : List UInt8, Go.Lib.splitK [c] 0 (Go.Lib.count l [c]) l = splitL c l
 | [] => by
   have : Go.Lib.count [] [c] = 0 := Go.Lib.count_miss (by simp [Go.Lib.index])
   rw [this]; rfl
 | x :: r => by
   have ih := splitK_one c r
   by_cases hx : x = c
   · subst hx
     rw [Go.Lib.count_cons_eq, Nat.add_comm, Go.Lib.splitK, index_one_eq, splitL, if_pos rfl, <- ih]
     simp
   · rw [Go.Lib.count_cons_ne x c r hx, splitL, if_neg hx, <- ih]
     cases hk : Go.Lib.count r [c] with
     | zero => rfl
     | succ k =>
       obtain ⟨i, hi⟩ := count_pos_index c r hk
       have e1 : (Go.Lib.index r [c] == -1) = false := by rw [beq_eq_false_iff_ne]; omega
       have e2 : (Go.Lib.index (x :: r) [c] == -1) = false := by
         rw [index_one_cons x c r hx, e1, beq_eq_false_iff_ne]; simp; omega
       have e3 : Go.Lib.index (x :: r) [c] = i + 1 := by rw [index_one_cons x c r hx, e1]; simp [hi]
       rw [Go.Lib.splitK, Go.Lib.splitK, e1, e2, e3, hi]
       simp only [Bool.false_eq_true, if_false]
       have t1 : ((i : Int) + 1).toNat = i + 1 := by omega
       have t2 : (i : Int).toNat = i := by omega
       rw [t1, t2, consH]
       simp [Nat.add_assoc]

def addLast (l : List (List UInt8)) (x : UInt8) : List (List UInt8) := l.set (l.length - 1) (l.getD (l.length - 1) [] ++ [x])
theorem addLast_cons (h : List UInt8) {t : List (List UInt8)} (ht : t ≠ []) (x : UInt8) : addLast (h :: t) x = h :: addLast t x := by
 cases t with
 | nil => exact absurd rfl ht
 | cons a s => simp [addLast]
theorem splitL_snoc (c x : UInt8) : ∀ l : List UInt8, splitL c (l ++ [x]) = if x = c then splitL c l ++ [[]] else addLast (splitL c l) x
 | [] => by
   by_cases hx : x = c
   · simp [splitL, hx]
   · simp [splitL, hx, consH, addLast]
 | y :: r => by
   have ih := splitL_snoc c x r
   have hne := splitL_ne c r
   rw [List.cons_append, splitL, splitL, ih]
   by_cases hy : y = c
   · rw [if_pos hy, if_pos hy]
     by_cases hx : x = c
     · rw [if_pos hx, if_pos hx]; rfl
     · rw [if_neg hx, if_neg hx, addLast_cons [] hne]
   · rw [if_neg hy, if_neg hy]
     generalize splitL c r = L at *
     cases L with
     | nil => exact absurd rfl hne
     | cons h t =>
       by_cases hx : x = c
       · rw [if_pos hx, if_pos hx]; rfl
       · rw [if_neg hx, if_neg hx]
         cases t with
         | nil => simp [addLast, consH]
         | cons a s =>
           have e1 := addLast_cons h (t := a :: s) (by simp) x
           have e2 := addLast_cons (y :: h) (t := a :: s) (by simp) x
           rw [e1]
           show (y :: h) :: addLast (a :: s) x = addLast ((y :: h) :: a :: s) x
           rw [e2]
theorem splitL_take {c : UInt8} {l : List UInt8} {i : Nat} {x : UInt8} (h : l[i]? = some x) : splitL c (l.take (i + 1)) = if x = c then splitL c (l.take i) ++ [[]] else addLast (splitL c (l.take i)) x := by
 rw [<- splitL_snoc, List.take_add_one, h]; rfl
theorem splitL_length (c : UInt8) : ∀ l : List UInt8, (splitL c l).length <= l.length + 1
 | [] => by simp [splitL]
 | y :: r => by
   have ih := splitL_length c r
   rw [splitL]
   split
   · simp; omega
   · have hne := splitL_ne c r
     generalize splitL c r = L at *
     cases L with
     | nil => exact absurd rfl hne
     | cons h t => simp [consH] at ih ⊢; omega
theorem splitL_part (c : UInt8) : ∀ (l p : List UInt8), p ∈ splitL c l -> p.length <= l.length
 | [], p, h => by simp [splitL] at h; simp [h]
 | y :: r, p, h => by
   have ih := splitL_part c r
   have hne := splitL_ne c r
   rw [splitL] at h
   split at h
   · rcases List.mem_cons.1 h with h | h
     · simp [h]
     · have := ih p h; simp; omega
   · generalize splitL c r = L at *
     cases L with
     | nil => exact absurd rfl hne
     | cons a t =>
       simp only [consH] at h
       rcases List.mem_cons.1 h with h | h
       · have := ih a (List.mem_cons_self ..); simp [h]; omega
       · have := ih p (List.mem_cons_of_mem _ h); simp; omega
theorem Hd {p : Prop} (h : p) : Go.RowKit.Hid p := h
open Go.RowKit

theorem block_of_add (a : Addr) (n : Nat) : (a.add n).block = a.block := by unfold Addr.add; split <;> rfl
theorem add_of_add (a : Addr) (i j : Nat) : (a.add i).add j = a.add (i + j) := by
 unfold Addr.add
 by_cases hi : i = 0 <;> by_cases hj : j = 0 <;> simp [hi, hj, Nat.add_assoc]

def RV (w : World) (v : Value) (us : List Value) : Prop :=
 ∃ A c, v = .slice A us.length c /\ us.length <= c /\ us.length <= 17592186044415 /\
   ∀ k, k < us.length -> ∃ ad, A = some ad /\ ad.block < w.heap.size /\ w.cell? (ad.add k) = us[k]?

def RI (w : World) (v : Value) (zs : List Int) : Prop := RV w v (zs.map (.int .i64))

theorem RV.keep {w w' : World} {v : Value} {us : List Value} (h : RV w v us) (hs : w.heap.size <= w'.heap.size)
   (hk : ∀ p : Addr, p.block < w.heap.size -> w'.cell? p = w.cell? p) : RV w' v us := by
 obtain ⟨A, c, h1, h2, h3, h4⟩ := h
 refine ⟨A, c, h1, h2, h3, fun k hkl => ?_⟩
 obtain ⟨ad, e, hb, hc⟩ := h4 k hkl
 exact ⟨ad, e, by omega, (hk _ (by rw [block_of_add]; exact hb)).trans hc⟩
theorem RV.below {w w' : World} {v : Value} {us : List Value} (h : RV w v us) (hb : Below w.heap.size w w') : RV w' v us :=
 h.keep hb.size fun _ hp => hb.cell hp
theorem RV.nil_ (w : World) : RV w (.slice none 0 0) [] := ⟨none, 0, rfl, by simp, by simp, fun k hk => by simp at hk⟩
theorem RI.below {w w' : World} {v : Value} {zs : List Int} (h : RI w v zs) (hb : Below w.heap.size w w') : RI w' v zs := RV.below h hb
theorem RI.nil_ (w : World) : RI w (.slice none 0 0) [] := RV.nil_ w
theorem RI.open_ {w : World} {v : Value} {zs : List Int} (h : RI w v zs) : ∃ A c, v = .slice A zs.length c /\ zs.length <= c /\ zs.length <= 17592186044415 /\
   ∀ k, k < zs.length -> ∃ ad z, A = some ad /\ ad.block < w.heap.size /\ Hid (zs[k]? = some z) /\ w.cell? (ad.add k) = some (.int .i64 z) := by
 obtain ⟨A, c, h1, h2, h3, h4⟩ := h
 simp only [List.length_map] at h1 h2 h3 h4
 refine ⟨A, c, h1, h2, h3, fun k hk => ?_⟩
 obtain ⟨ad, e, hb, hc⟩ := h4 k hk
 refine ⟨ad, zs[k], e, hb, List.getElem?_eq_getElem hk, hc.trans ?_⟩
 simp [List.getElem?_map, List.getElem?_eq_getElem hk]
theorem RI.mk_ {w : World} {A : Option Addr} {c : Nat} {zs : List Int} (h2 : zs.length <= c) (h3 : zs.length <= 17592186044415)
   (h4 : ∀ k z, zs[k]? = some z -> ∃ ad, A = some ad /\ ad.block < w.heap.size /\ w.cell? (ad.add k) = some (.int .i64 z)) : RI w (.slice A zs.length c) zs := by
 refine ⟨A, c, by simp, by simpa using h2, by simpa using h3, fun k hk => ?_⟩
 simp only [List.length_map] at hk
 obtain ⟨ad, e, hb, hc⟩ := h4 k zs[k] (List.getElem?_eq_getElem hk)
 refine ⟨ad, e, hb, hc.trans ?_⟩
 simp [List.getElem?_map, List.getElem?_eq_getElem hk]

theorem RI.len {w : World} {v : Value} {zs : List Int} (h : RI w v zs) : zs.length <= 17592186044415 := by
 obtain ⟨A, c, _, _, h, _⟩ := RI.open_ h; exact h

theorem drop_at {α : Type} {l : List α} {k : Nat} {x : α} (h : Hid (l[k]? = some x)) : l.drop k = x :: l.drop (k + 1) := by
 have h' := List.getElem?_eq_some_iff.1 h.out
 obtain ⟨hk, rfl⟩ := h'
 exact List.drop_eq_getElem_cons hk
def RR (w : World) (v : Value) (zss : List (List Int)) : Prop :=
 ∃ us : List Value, RV w v us /\ us.length = zss.length /\ ∀ (k : Nat) (zs : List Int), zss[k]? = some zs -> ∃ u, us[k]? = some u /\ RI w u zs
theorem RR.open_ {w : World} {v : Value} {zss : List (List Int)} (h : RR w v zss) : ∃ A c, v = .slice A zss.length c /\ zss.length <= c /\ zss.length <= 17592186044415 /\
   ∀ k, k < zss.length -> ∃ ad zs A1 c1, A = some ad /\ ad.block < w.heap.size /\ Hid (zss[k]? = some zs) /\ w.cell? (ad.add k) = some (.slice A1 zs.length c1) /\ RI w (.slice A1 zs.length c1) zs := by
 obtain ⟨us, ⟨A, c, h1, h2, h3, h4⟩, hl, hu⟩ := h
 rw [hl] at h1 h2 h3 h4
 refine ⟨A, c, h1, h2, h3, fun k hk => ?_⟩
 obtain ⟨ad, e, hb, hc⟩ := h4 k hk
 obtain ⟨u, hu1, hr⟩ := hu k zss[k] (List.getElem?_eq_getElem hk)
 obtain ⟨A1, c1, rfl, _⟩ := hr.open_
 exact ⟨ad, zss[k], A1, c1, e, hb, List.getElem?_eq_getElem hk, hc.trans hu1, hr⟩
def OV (w : World) (B : Nat) (e : TypeId) (v : Value) (us : List Value) : Prop := w.ownsRow B e 1 v us.length us /\ us.length <= 17592186044415
def OI (w : World) (B : Nat) (v : Value) (zs : List Int) : Prop := OV w B 3 v (zs.map (.int .i64))
theorem OV.rv {w : World} {B : Nat} {e : TypeId} {v : Value} {us : List Value} (h : OV w B e v us) : RV w v us := by
 obtain ⟨h, hb⟩ := h
 rcases h.2 with ⟨rfl, hn⟩ | ⟨g, cap, cur, rfl, hg, hh, hn, hm, hs, ht⟩
 · exact ⟨none, 0, by rw [hn], by omega, hb, fun k hk => by omega⟩
 · refine ⟨some ⟨g, 0, none⟩, cap, rfl, hn, hb, fun k hk => ⟨_, rfl, ?_, ?_⟩⟩
   · rcases Nat.lt_or_ge g w.heap.size with hlt | hge
     · exact hlt
     · rw [Array.getElem?_eq_none hge] at hh; cases hh
   · rw [h.cells (g := g) rfl k _ (List.getElem?_eq_getElem hk), List.getElem?_eq_getElem hk]
theorem OI.ri {w : World} {B : Nat} {v : Value} {zs : List Int} (h : OI w B v zs) : RI w v zs := OV.rv h
theorem OV.below {w w' : World} {B : Nat} {e : TypeId} {v : Value} {us : List Value} (h : OV w B e v us) (hb : Below w.heap.size w w') : OV w' B e v us :=
 ⟨h.1.kept (row := none) ⟨hb.os, hb.tape, hb.output, hb.size, fun k hk _ => hb.block k hk⟩ (by cases v.ownBlock <;> simp), h.2⟩
theorem OV.mono {w : World} {B B' : Nat} {e : TypeId} {v : Value} {us : List Value} (h : OV w B e v us) (hB : B' <= B) : OV w B' e v us := by
 obtain ⟨⟨h1, h2⟩, h3⟩ := h
 refine ⟨⟨h1, ?_⟩, h3⟩
 rcases h2 with h2 | ⟨g, cap, cur, r1, r2, r3⟩
 · exact .inl h2
 · exact .inr ⟨g, cap, cur, r1, by omega, r3⟩
theorem OI.below {w w' : World} {B : Nat} {v : Value} {zs : List Int} (h : OI w B v zs) (hb : Below w.heap.size w w') : OI w' B v zs := OV.below h hb
theorem OV.nil_ (w : World) (B : Nat) (e : TypeId) : OV w B e (.slice none 0 0) [] := ⟨World.ownsRow_nil _ _ _ _, by simp⟩
theorem OI.nil_ (w : World) (B : Nat) : OI w B (.slice none 0 0) [] := OV.nil_ _ _ _
theorem below_drewN {B : Nat} {a w : World} (h : Below B a w) (n : Nat) : Below B a (w.drewN n) := ⟨h.os, h.tape, h.output, h.size, h.block⟩
theorem int_info : (Tryz.prog.info? 3).map (fun i => (i.zero, i.size, i.bytes)) = some (some (.int .i64 0), 1, 8) := by kernel_rfl
theorem RV.lit (w : World) (us : Array Value) (e : TypeId) (n : Nat) (hn : us.size = n) (hb : n <= 17592186044415) : RV (w.alloc (.cells us e)) (.slice (some ⟨w.heap.size, 0, none⟩) n n) us.toList := by
 have hn' : us.toList.length = n := by simpa using hn
 refine ⟨some ⟨w.heap.size, 0, none⟩, n, by rw [hn'], by rw [hn']; omega, by rw [hn']; omega, fun k hk => ⟨_, rfl, by simp, ?_⟩⟩
 rw [hn'] at hk
 have : ((⟨w.heap.size, 0, none⟩ : Addr).add k) = ⟨w.heap.size, k, none⟩ := by
   unfold Addr.add; split
   · next h => rw [h]
   · simp
 rw [this, cell_of_row (w.alloc (.cells us e)) w.heap.size k us e (0, 0) (heap_alloc_new w _)]
 simp
theorem below_alloc (w : World) (o : Obj) : Below w.heap.size w (w.alloc o) := (Below.refl _ _).alloc (Nat.le_refl _) o
def InB (k : Int) : Bool := decide (-1048576 <= k) && decide (k <= 1048576)
theorem inB_iff (k : Int) : InB k = true ↔ -1048576 <= k /\ k <= 1048576 := by simp [InB]

section
variable {P : Program} (w : World)
theorem run_appendV (t ty e : TypeId) (i : TypeInfo) (z : Value) (bytes : Nat) (ht : P.underlying t = some (.slice e)) (hi : P.info? e = some i) (hz : i.zero = some z)
   (hsize : i.size = 1) (hby : i.bytes = bytes) (hzs : z.cells.size = 1) (B : Nat) (v : Value) (us : List Value) (hown : OV w B e v us) (vx : Value) (news : List Value) (hr : RV w vx news)
   (h1 : ∀ u ∈ news, u.oneCell' = true) (hb1 : us.length + news.length <= 17592186044415) (hb2 : (us.length + news.length) * bytes <= 140737488355328) (hB : B <= w.heap.size) :
   ∃ v' w', (Builtin.append_ #[t, t] ty #[v, vx]).run P w = .ok v' w' /\ OV w' B e v' (us ++ news) /\ w.grownBy w' v.ownBlock /\ (v'.ownBlock = v.ownBlock \/ v'.ownBlock = some w.heap.size) := by
 obtain ⟨A, c, rfl, _, _, hc⟩ := hr
 rcases A with _ | ad
 · have hn : news = [] := by
     rcases Nat.eq_zero_or_pos news.length with h0 | h0
     · exact List.eq_nil_of_length_eq_zero h0
     · obtain ⟨_, h, _⟩ := hc 0 h0; cases h
   subst hn
   refine ⟨v, w, ?_, by simpa using hown, World.grownBy.refl w _, .inl rfl⟩
   rcases hown.1.2 with ⟨rfl, _⟩ | ⟨g, cap, cur, rfl, _, _, hnc, _⟩
   · simp [Builtin.append_, run_underlying ht, sizeOf, typeInfo, hi, Builtin.lenOf, Builtin.firstCells]
   · simp [Builtin.append_, run_underlying ht, sizeOf, typeInfo, hi, Builtin.lenOf, Builtin.firstCells, hnc, storeCells]
 · obtain ⟨v', w', hrun, h2, h3, _, h5⟩ := run_append_own_at (P := P) w B t ty e i z 1 bytes ht hi hz hsize hby hzs (by omega) v us.length us hown.1 ad news.length c news (by simp)
     (fun j u hu => by
       obtain ⟨hj, rfl⟩ := List.getElem?_eq_some_iff.1 hu
       obtain ⟨ad', he, _, hcc⟩ := hc j hj
       obtain rfl := Option.some.inj he
       exact hcc.trans hu) h1 (by unfold maxLen; omega) hb2 hB
   exact ⟨v', w', hrun, ⟨by simpa using h2, by simpa using hb1⟩, h3, h5⟩

theorem wpList_appendV {ops : Array Oper} {rest : List Oper} {o : Oper} {a : Act} {Q : Exit -> Act -> World -> Prop} (hgd : o.guard = none) (s x : Operand) (t : TypeId)
   (ho : o.op = .call { callee := .builtin .append, args := #[s, x], argTypes := #[t, t] })
   (e : TypeId) (i : TypeInfo) (z : Value) (bytes : Nat) (ht : P.underlying t = some (.slice e)) (hi : P.info? e = some i) (hz : i.zero = some z)
   (hsize : i.size = 1) (hby : i.bytes = bytes) (hzs : z.cells.size = 1) (B : Nat) (v : Value) (us : List Value) (hs : a.eval s = v) (hown : OV w B e v us)
   (vx : Value) (news : List Value) (hx : a.eval x = vx) (hr : RV w vx news)
   (h1 : ∀ u ∈ news, u.oneCell' = true) (hb1 : us.length + news.length <= 17592186044415) (hb2 : (us.length + news.length) * bytes <= 140737488355328) (hB : B <= w.heap.size)
   (h : ∀ v' w', OV w' B e v' (us ++ news) -> w.grownBy w' v.ownBlock -> (v'.ownBlock = v.ownBlock \/ v'.ownBlock = some w.heap.size) -> wpList P ops Q rest (a.put o.dst v') w') : wpList P ops Q (o :: rest) a w := by
 refine wpList_plain hgd fun K hK => ?_
 obtain ⟨v', w', hrun, h2, h3, h4⟩ := run_appendV (P := P) w t o.type e i z bytes ht hi hz hsize hby hzs B v us hown vx news hr h1 hb1 hb2 hB
 unfold Oper.wp execOp
 simp only [ho, resolve, invoke, builtin, Sem.run_bind, Sem.run_pure, Result.andThen_ok, List.map_toArray, List.map_cons, List.map_nil, hs, hx, hrun]
 exact hK _ _ (h v' w' h2 h3 h4)
end
theorem OI.at_ {w : World} {B : Nat} {v : Value} {zs : List Int} (h : OI w B v zs) {k : Nat} (hk : k < zs.length) :
   ∃ g cap, v = .slice (some ⟨g, 0, none⟩) zs.length cap /\ B <= g /\ w.cell? ⟨g, k, none⟩ = some (.int .i64 (zs.getD k 0)) /\ w.frozen? ⟨g, k, none⟩ = false /\
     ∀ x : Int, OI (w.setCell ⟨g, k, none⟩ (.int .i64 x)) B (.slice (some ⟨g, 0, none⟩) zs.length cap) (zs.set k x) /\ w.grownBy (w.setCell ⟨g, k, none⟩ (.int .i64 x)) (some g) := by
 have h' := h
 obtain ⟨h1, h2⟩ := h
 simp only [List.length_map] at h1 h2
 rcases h1.2 with ⟨_, hn⟩ | ⟨g, cap, cur, rfl, hg, hh, hn, hm, hs, ht⟩
 · omega
 · refine ⟨g, cap, rfl, hg, ?_, h1.frozenAt k, fun x => ?_⟩
   · rw [h1.cellAt k (by omega), List.getElem?_map, List.getElem?_eq_getElem hk]
     simp [List.getElem?_eq_getElem hk]
   · have := h1.stored k (.int .i64 x)
     exact ⟨⟨by rw [List.map_set, List.length_set, List.length_map]; exact this.1, by simpa using h2⟩, this.2⟩
theorem OI.at' {w : World} {B g n cap : Nat} {zs : List Int} (h : OI w B (.slice (some ⟨g, 0, none⟩) n cap) zs) {k : Nat} (hk : k < zs.length) :
   n = zs.length /\ B <= g /\ w.cell? ⟨g, k, none⟩ = some (.int .i64 (zs.getD k 0)) /\ w.frozen? ⟨g, k, none⟩ = false /\
     ∀ x : Int, OI (w.setCell ⟨g, k, none⟩ (.int .i64 x)) B (.slice (some ⟨g, 0, none⟩) n cap) (zs.set k x) /\ w.grownBy (w.setCell ⟨g, k, none⟩ (.int .i64 x)) (some g) := by
 obtain ⟨g', cap', hv, h1, h2, h3, h4⟩ := h.at_ hk
 simp only [Value.slice.injEq, Option.some.injEq, Addr.mk.injEq, and_true] at hv
 obtain ⟨rfl, rfl, rfl⟩ := hv
 exact ⟨rfl, h1, h2, h3, h4⟩
theorem ints_one (zs : List Int) : ∀ u ∈ zs.map (Value.int .i64), u.oneCell' = true := by
 intro u hu; obtain ⟨z, _, rfl⟩ := List.mem_map.1 hu; rfl
theorem below_own {w w0 w' : World} {B : Nat} {v : Value} {e : TypeId} {us : List Value} (hb : Below B w0 w) (hB : B <= w.heap.size) (h : OV w B e v us) (hg : w.grownBy w' v.ownBlock) : Below B w0 w' :=
 hb.grown hg hB fun k hk => (h.1.lt k hk).1
def Dr (w w' : World) : Prop := ∃ n, w' = w.drewN n
theorem Dr.refl (w : World) : Dr w w := ⟨0, rfl⟩
theorem Dr.drewN {w w' : World} (h : Dr w w') (n : Nat) : Dr w (w'.drewN n) := by obtain ⟨m, rfl⟩ := h; exact ⟨m + n, World.drewN_drewN ..⟩
theorem Dr.drew {w w' : World} (h : Dr w w') : Dr w w'.drew := h.drewN 1
theorem Dr.cell {w w' : World} (h : Dr w w') (a : Addr) : w'.cell? a = w.cell? a := by obtain ⟨n, rfl⟩ := h; rfl
end Go.Proofs.YteamhbohgoclgaaGreatDoor

namespace Go.Proofs.YteamhbohgoclgaaGreatDoor

def sumN : Nat -> (Nat -> Int) -> Int
 | 0, _ => 0
 | n + 1, f => sumN n f + f n
theorem sumN_congr {n : Nat} {f g : Nat -> Int} (h : ∀ i, i < n -> f i = g i) : sumN n f = sumN n g := by
 induction n with
 | zero => rfl
 | succ n ih => simp only [sumN]; rw [ih fun i hi => h i (by omega), h n (by omega)]
theorem sumN_add (n : Nat) (f g : Nat -> Int) : sumN n (fun i => f i + g i) = sumN n f + sumN n g := by
 induction n with
 | zero => rfl
 | succ n ih => simp only [sumN, ih]; omega
theorem sumN_mul (n : Nat) (a : Int) (f : Nat -> Int) : sumN n (fun i => a * f i) = a * sumN n f := by
 induction n with
 | zero => simp [sumN]
 | succ n ih => simp only [sumN, ih, Int.mul_add]
theorem sumN_zero {n : Nat} {f : Nat -> Int} (h : ∀ i, i < n -> f i = 0) : sumN n f = 0 := by
 induction n with
 | zero => rfl
 | succ n ih => simp only [sumN]; rw [ih fun i hi => h i (by omega), h n (by omega)]; rfl
theorem sumN_one {n c : Nat} {f : Nat -> Int} (hc : c < n) (h : ∀ i, i < n -> i ≠ c -> f i = 0) : sumN n f = f c := by
 induction n with
 | zero => omega
 | succ n ih =>
   simp only [sumN]
   by_cases e : c = n
   · rw [sumN_zero fun i hi => h i (by omega) (by omega), e]; omega
   · rw [ih (by omega) fun i hi hne => h i (by omega) hne, h n (by omega) (by omega)]; omega
def skip (k j : Nat) : Nat := if j < k then j else j + 1

theorem sumN_swap (n m : Nat) (f : Nat -> Nat -> Int) : sumN n (fun i => sumN m fun j => f i j) = sumN m fun j => sumN n fun i => f i j := by
 induction n with
 | zero => exact (sumN_zero fun j _ => rfl).symm
 | succ n ih => simp only [sumN]; rw [ih, <- sumN_add]

def lap (n : Nat) (w : Nat -> Nat -> Int) (s : Nat -> Int) (v : Nat) : Int := sumN n fun u => w v u * (s v - s u)
def Conn (n : Nat) (w : Nat -> Nat -> Int) : Prop := ∀ A : Nat -> Bool, (∃ v, v < n /\ A v = true) -> (∃ v, v < n /\ A v = false) -> ∃ v u, v < n /\ u < n /\ A v = true /\ A u = false /\ 0 < w v u
theorem sumN_nonneg {n : Nat} {f : Nat -> Int} (h : ∀ i, i < n -> 0 <= f i) : 0 <= sumN n f := by
 induction n with
 | zero => exact Int.le_refl _
 | succ n ih => have := ih fun i hi => h i (by omega); have := h n (by omega); simp only [sumN]; omega
theorem sumN_ge {n c : Nat} {f : Nat -> Int} (h : ∀ i, i < n -> 0 <= f i) (hc : c < n) : f c <= sumN n f := by
 induction n with
 | zero => omega
 | succ n ih =>
   simp only [sumN]
   by_cases e : c = n
   · have := sumN_nonneg (n := n) (f := f) fun i hi => h i (by omega)
     rw [e]; omega
   · have := ih (fun i hi => h i (by omega)) (by omega)
     have := h n (by omega)
     omega
theorem sumN_mono {n : Nat} {f g : Nat -> Int} (h : ∀ i, i < n -> f i <= g i) : sumN n f <= sumN n g := by
 induction n with
 | zero => exact Int.le_refl _
 | succ n ih => have := ih fun i hi => h i (by omega); have := h n (by omega); simp only [sumN]; omega
theorem sumN_neg (n : Nat) (f : Nat -> Int) : (sumN n fun i => - f i) = - sumN n f := by
 induction n with
 | zero => rfl
 | succ n ih => simp only [sumN, ih]; omega
def outw (n : Nat) (w : Nat -> Nat -> Int) (A : Nat -> Bool) (v : Nat) : Int := sumN n fun u => if A u then 0 else w v u
def Tight (n : Nat) (w : Nat -> Nat -> Int) (q : Nat) (d : Nat -> Int) : Prop := ∀ A : Nat -> Bool, A q = false -> (∃ v, v < n /\ A v = true) -> ∃ v, v < n /\ A v = true /\ d v < outw n w A v

theorem lap_sum {n : Nat} {w : Nat -> Nat -> Int} (hs : ∀ v u, w v u = w u v) (s : Nat -> Int) : (sumN n fun v => lap n w s v) = 0 := by
 have e1 : (sumN n fun v => lap n w s v) = (sumN n fun v => sumN n fun u => w v u * s v) + -(sumN n fun v => sumN n fun u => w v u * s u) := by
   rw [<- sumN_neg, <- sumN_add]
   refine sumN_congr fun v _ => ?_
   unfold lap
   rw [<- sumN_neg, <- sumN_add]
   exact sumN_congr fun u _ => by grind
 have e2 : (sumN n fun v => sumN n fun u => w v u * s u) = sumN n fun v => sumN n fun u => w v u * s v := by
   rw [sumN_swap]
   exact sumN_congr fun u _ => sumN_congr fun v _ => by rw [hs v u]
 rw [e1, e2]; omega

theorem cut_sum {n : Nat} {w : Nat -> Nat -> Int} (hs : ∀ v u, w v u = w u v) (s : Nat -> Int) (a : Nat -> Int) :
   (sumN n fun v => a v * lap n w s v) = sumN n fun v => sumN n fun u => a v * (1 - a u) * (w v u * (s v - s u)) := by
 have e1 : (sumN n fun v => a v * lap n w s v) = (sumN n fun v => sumN n fun u => a v * (1 - a u) * (w v u * (s v - s u))) + sumN n fun v => sumN n fun u => a v * a u * (w v u * (s v - s u)) := by
   rw [<- sumN_add]
   refine sumN_congr fun v _ => ?_
   unfold lap
   rw [<- sumN_mul, <- sumN_add]
   exact sumN_congr fun u _ => by grind
 have e2 : (sumN n fun v => sumN n fun u => a v * a u * (w v u * (s v - s u))) = -(sumN n fun v => sumN n fun u => a v * a u * (w v u * (s v - s u))) := by
   rw [<- sumN_neg]
   conv => lhs; rw [sumN_swap]
   refine sumN_congr fun u _ => ?_
   rw [<- sumN_neg]
   exact sumN_congr fun v _ => by rw [hs v u]; grind
 rw [e1]
 omega
def countN : Nat -> (Nat -> Bool) -> Nat
 | 0, _ => 0
 | n + 1, p => countN n p + if p n then 1 else 0
theorem countN_le (n : Nat) (p : Nat -> Bool) : countN n p <= n := by
 induction n with
 | zero => exact Nat.le_refl _
 | succ n ih => simp only [countN]; split <;> omega
theorem countN_mono {n : Nat} {p p' : Nat -> Bool} (h : ∀ v, v < n -> p v = true -> p' v = true) : countN n p <= countN n p' := by
 induction n with
 | zero => exact Nat.le_refl _
 | succ n ih =>
   have := ih fun v hv => h v (by omega)
   have h2 := h n (by omega)
   simp only [countN]
   cases hp : p n with
   | false => simp; omega
   | true => rw [h2 hp]; simp; omega
theorem countN_lt {n : Nat} {p p' : Nat -> Bool} (h : ∀ v, v < n -> p v = true -> p' v = true) {x : Nat} (hx : x < n) (h1 : p x = false) (h2 : p' x = true) : countN n p < countN n p' := by
 induction n with
 | zero => omega
 | succ n ih =>
   simp only [countN]
   by_cases e : x = n
   · subst e
     have := countN_mono (n := x) fun v hv => h v (by omega)
     rw [h1, h2]; simp; omega
   · have := ih (fun v hv => h v (by omega)) (by omega)
     have h3 := h n (by omega)
     cases hp : p n with
     | false => simp; omega
     | true => rw [h3 hp]; simp; omega
theorem countN_all {n : Nat} {p : Nat -> Bool} (h : n <= countN n p) : ∀ v, v < n -> p v = true := by
 induction n with
 | zero => intro v hv; omega
 | succ n ih =>
   have hl := countN_le n p
   simp only [countN] at h
   cases hp : p n with
   | false => rw [hp] at h; simp at h; omega
   | true =>
     rw [hp] at h; simp at h
     intro v hv
     by_cases e : v = n
     · rw [e]; exact hp
     · exact ih h v (by omega)

def joinw (n : Nat) (w : Nat -> Nat -> Int) (b : Nat -> Bool) (v : Nat) : Int := sumN n fun u => if b u then w v u else 0
def Legal (n : Nat) (w : Nat -> Nat -> Int) (d : Nat -> Int) (A : Nat -> Bool) : Prop := ∀ v, v < n -> A v = true -> outw n w A v <= d v
theorem burn_step {n : Nat} {w : Nat -> Nat -> Int} {d : Nat -> Int} {A b : Nat -> Bool} (hw : ∀ v u, 0 <= w v u) (hA : Legal n w d A) (hdis : ∀ u, u < n -> b u = true -> A u = false) {v : Nat} (hv : v < n) (hb : d v < joinw n w b v) : A v = false := by
 cases ha : A v with
 | false => rfl
 | true =>
   have h1 := hA v hv ha
   have h2 : joinw n w b v <= outw n w A v := by
     unfold joinw outw
     refine sumN_mono fun u hu => ?_
     have := hw v u
     cases hbu : b u with
     | true => rw [hdis u hu hbu]; simp
     | false => cases A u <;> simp <;> omega
   omega
theorem tight_of_burnt {n : Nat} {w : Nat -> Nat -> Int} {d : Nat -> Int} {q : Nat} (h : ∀ A, A q = false -> Legal n w d A -> ∀ v, v < n -> A v = false) : Tight n w q d := by
 intro A hq ⟨v, hv, ha⟩
 apply Classical.byContradiction
 intro hne
 have hl : Legal n w d A := fun u hu hau => by
   rcases Int.lt_or_le (d u) (outw n w A u) with c | c
   · exact absurd ⟨u, hu, hau, c⟩ hne
   · exact c
 have := h A hq hl v hv
 rw [ha] at this; cases this
theorem lap_ind {n : Nat} {w : Nat -> Nat -> Int} (A : Nat -> Bool) (t : Int) (v : Nat) : lap n w (fun u => if A u then t else 0) v = if A v then t * outw n w A v else -(t * joinw n w A v) := by
 unfold lap outw joinw
 cases ha : A v with
 | true =>
   simp only [if_true]
   rw [<- sumN_mul]
   exact sumN_congr fun u _ => by cases A u <;> simp <;> grind
 | false =>
   simp only [Bool.false_eq_true, if_false]
   rw [<- sumN_mul, <- sumN_neg]
   exact sumN_congr fun u _ => by cases A u <;> simp <;> grind
theorem outw_not (n : Nat) (w : Nat -> Nat -> Int) (b : Nat -> Bool) (v : Nat) : outw n w (fun u => !b u) v = joinw n w b v := by
 unfold outw joinw
 exact sumN_congr fun u _ => by cases hb : b u <;> simp [hb]
theorem lap_add (n : Nat) (w : Nat -> Nat -> Int) (s t : Nat -> Int) (v : Nat) : lap n w (fun u => s u + t u) v = lap n w s v + lap n w t v := by
 unfold lap
 rw [<- sumN_add]
 exact sumN_congr fun u _ => by grind
theorem lap_congr {n : Nat} {w : Nat -> Nat -> Int} {s t : Nat -> Int} {v : Nat} (hv : v < n) (h : ∀ u, u < n -> s u = t u) : lap n w s v = lap n w t v := by
 unfold lap
 exact sumN_congr fun u hu => by rw [h v hv, h u hu]
theorem some_out {n : Nat} {w : Nat -> Nat -> Int} (hw : ∀ v u, 0 <= w v u) (hc : Conn n w) {A : Nat -> Bool} {q : Nat} (hq : q < n) (hAq : A q = false) (hA : ∃ v, v < n /\ A v = true) : ∃ v, v < n /\ A v = true /\ 0 < outw n w A v := by
 obtain ⟨v, u, hv, hu, ha, hb, hwu⟩ := hc A hA ⟨q, hq, hAq⟩
 refine ⟨v, hv, ha, ?_⟩
 have := sumN_ge (n := n) (c := u) (f := fun u => if A u then 0 else w v u) (fun i _ => by split; exact Int.le_refl _; exact hw v i) hu
 simp only [hb, Bool.false_eq_true, if_false] at this
 unfold outw
 omega

abbrev Tri := Int × Int × Int
def okE (n : Int) (last : Int × Int) (t : Tri) : Int :=
 if t.1 < 0 \/ n <= t.1 \/ t.2.1 < 0 \/ n <= t.2.1 \/ t.2.2 < 1 \/ 50 < t.2.2 then 2 else if t.2.1 < t.1 \/ t.1 < last.1 \/ (t.1 = last.1 /\ t.2.1 <= last.2) then 9 else 0
def gcheckL (n : Int) : Int × Int -> List Tri -> Int
 | _, [] => 0
 | last, t :: r => if okE n last t ≠ 0 then okE n last t else gcheckL n (t.1, t.2.1) r
def gcheckE (n : Int) (es : List Tri) : Int := if n < 1 \/ 12 < n then 2 else gcheckL n (-1, -1) es
def LexLt (s t : Tri) : Prop := s.1 < t.1 \/ (s.1 = t.1 /\ s.2.1 < t.2.1)
structure Edges (n : Nat) (es : List Tri) : Prop where
 lo : ∀ t ∈ es, 0 <= t.1 /\ t.1 <= t.2.1 /\ t.2.1 < n
 mult : ∀ t ∈ es, 1 <= t.2.2 /\ t.2.2 <= 50
 ord : es.Pairwise LexLt
theorem okE_zero {n : Int} {last : Int × Int} {t : Tri} (h : okE n last t = 0) : 0 <= t.1 /\ t.1 <= t.2.1 /\ t.2.1 < n /\ 1 <= t.2.2 /\ t.2.2 <= 50 /\ (last.1 < t.1 \/ (last.1 = t.1 /\ last.2 < t.2.1)) := by
 unfold okE at h
 by_cases a : t.1 < 0 \/ n <= t.1 \/ t.2.1 < 0 \/ n <= t.2.1 \/ t.2.2 < 1 \/ 50 < t.2.2
 · rw [if_pos a] at h; cases h
 · rw [if_neg a] at h
   by_cases b : t.2.1 < t.1 \/ t.1 < last.1 \/ (t.1 = last.1 /\ t.2.1 <= last.2)
   · rw [if_pos b] at h; cases h
   · omega
theorem gcheckL_zero {n : Nat} {es : List Tri} {last : Int × Int} (h : gcheckL n last es = 0) : Edges n es /\ ∀ t ∈ es, last.1 < t.1 \/ (last.1 = t.1 /\ last.2 < t.2.1) := by
 induction es generalizing last with
 | nil => exact ⟨⟨by simp, by simp, List.Pairwise.nil⟩, by simp⟩
 | cons t r ih =>
   unfold gcheckL at h
   by_cases e : okE n last t = 0
   · simp only [e, ne_eq, not_true_eq_false, if_false] at h
     obtain ⟨h1, h2, h3, h4, h5, h6⟩ := okE_zero e
     obtain ⟨g, gl⟩ := ih h
     refine ⟨⟨?_, ?_, List.Pairwise.cons (fun s hs => gl s hs) g.ord⟩, ?_⟩
     · intro s hs
       rcases List.mem_cons.1 hs with rfl | hs
       · exact ⟨h1, h2, h3⟩
       · exact g.lo s hs
     · intro s hs
       rcases List.mem_cons.1 hs with rfl | hs
       · exact ⟨h4, h5⟩
       · exact g.mult s hs
     · intro s hs
       rcases List.mem_cons.1 hs with rfl | hs
       · exact h6
       · have := gl s hs; simp only at this; omega
   · simp [e] at h
theorem gcheckE_zero {n : Int} {es : List Tri} (h : gcheckE n es = 0) : ∃ m : Nat, n = m /\ 1 <= m /\ m <= 12 /\ Edges m es := by
 unfold gcheckE at h
 by_cases a : n < 1 \/ 12 < n
 · rw [if_pos a] at h; cases h
 · rw [if_neg a] at h
   obtain ⟨m, rfl⟩ := Int.eq_ofNat_of_zero_le (show 0 <= n by omega)
   exact ⟨m, rfl, by omega, by omega, (gcheckL_zero h).1⟩

def ew (t : Tri) (v u : Nat) : Int := if t.1 ≠ t.2.1 /\ ((t.1 = v /\ t.2.1 = u) \/ (t.1 = u /\ t.2.1 = v)) then t.2.2 else 0
def wgt : List Tri -> Nat -> Nat -> Int
 | [], _, _ => 0
 | t :: r, v, u => ew t v u + wgt r v u
theorem ew_sym (t : Tri) (v u : Nat) : ew t v u = ew t u v := by
 unfold ew
 split <;> split <;> first | rfl | (exfalso; omega)
theorem wgt_sym (es : List Tri) (v u : Nat) : wgt es v u = wgt es u v := by
 induction es with
 | nil => rfl
 | cons t r ih => simp only [wgt, ih, ew_sym t v u]
theorem ew_self (t : Tri) (v : Nat) : ew t v v = 0 := by
 unfold ew
 rw [if_neg]
 rintro ⟨h1, h2⟩
 rcases h2 with h2 | h2 <;> exact h1 (h2.1.trans h2.2.symm)
theorem wgt_self (es : List Tri) (v : Nat) : wgt es v v = 0 := by
 induction es with
 | nil => rfl
 | cons t r ih => simp only [wgt, ih, ew_self]; rfl
theorem ew_nonneg {t : Tri} (h : 0 <= t.2.2) (v u : Nat) : 0 <= ew t v u := by unfold ew; split <;> omega
theorem wgt_nonneg {es : List Tri} (h : ∀ t ∈ es, 0 <= t.2.2) (v u : Nat) : 0 <= wgt es v u := by
 induction es with
 | nil => exact Int.le_refl _
 | cons t r ih =>
   have h1 := ew_nonneg (h t (List.mem_cons_self ..)) v u
   have h2 := ih fun s hs => h s (List.mem_cons_of_mem _ hs)
   simp only [wgt]; omega
theorem wgt_pos_mem {es : List Tri} {v u : Nat} (h : 0 < wgt es v u) : ∃ t ∈ es, t.1 ≠ t.2.1 /\ ((t.1 = v /\ t.2.1 = u) \/ (t.1 = u /\ t.2.1 = v)) := by
 induction es with
 | nil => simp [wgt] at h
 | cons t r ih =>
   by_cases a : t.1 ≠ t.2.1 /\ ((t.1 = v /\ t.2.1 = u) \/ (t.1 = u /\ t.2.1 = v))
   · exact ⟨t, List.mem_cons_self .., a⟩
   · simp only [wgt, ew, if_neg a] at h
     obtain ⟨s, hs, hh⟩ := ih (by omega)
     exact ⟨s, List.mem_cons_of_mem _ hs, hh⟩
theorem wgt_mem_le {es : List Tri} (h : ∀ t ∈ es, 0 <= t.2.2) {t : Tri} (ht : t ∈ es) {v u : Nat} (he : t.1 ≠ t.2.1 /\ ((t.1 = v /\ t.2.1 = u) \/ (t.1 = u /\ t.2.1 = v))) : t.2.2 <= wgt es v u := by
 induction es with
 | nil => cases ht
 | cons s r ih =>
   have h1 := ew_nonneg (h s (List.mem_cons_self ..)) v u
   have h2 := wgt_nonneg (fun s hs => h s (List.mem_cons_of_mem _ hs)) v u (es := r)
   rcases List.mem_cons.1 ht with rfl | ht
   · simp only [wgt, ew, if_pos he]; omega
   · have := ih (fun s hs => h s (List.mem_cons_of_mem _ hs)) ht
     simp only [wgt]; omega

def multS (es : List Tri) : Int := (es.map fun t => t.2.2).sum
theorem multS_cons (t : Tri) (r : List Tri) : multS (t :: r) = t.2.2 + multS r := by simp [multS]
def lapT1 (t : Tri) (s : Nat -> Int) (v : Nat) : Int :=
 if t.1 = t.2.1 then 0 else if t.1 = v then t.2.2 * (s v - s t.2.1.toNat) else if t.2.1 = v then t.2.2 * (s v - s t.1.toNat) else 0
def lapE : List Tri -> (Nat -> Int) -> Nat -> Int
 | [], _, _ => 0
 | t :: r, s, v => lapT1 t s v + lapE r s v
def Ends (n : Nat) (es : List Tri) : Prop := ∀ t ∈ es, 0 <= t.1 /\ t.1 < n /\ 0 <= t.2.1 /\ t.2.1 < n
theorem Edges.ends {n : Nat} {es : List Tri} (h : Edges n es) : Ends n es := fun t ht => by have := h.lo t ht; omega
theorem Ends.tail {n : Nat} {t : Tri} {es : List Tri} (h : Ends n (t :: es)) : Ends n es := fun s hs => h s (List.mem_cons_of_mem _ hs)
theorem Edges.pos {n : Nat} {es : List Tri} (h : Edges n es) : ∀ t ∈ es, 0 <= t.2.2 := fun t ht => by have := h.mult t ht; omega

theorem sum_ew {n : Nat} {t : Tri} (h : 0 <= t.1 /\ t.1 < n /\ 0 <= t.2.1 /\ t.2.1 < n) (f : Nat -> Int) (v : Nat) :
   (sumN n fun u => ew t v u * f u) = if t.1 = t.2.1 then 0 else if t.1 = v then t.2.2 * f t.2.1.toNat else if t.2.1 = v then t.2.2 * f t.1.toNat else 0 := by
 by_cases e : t.1 = t.2.1
 · rw [if_pos e]
   exact sumN_zero fun u _ => by unfold ew; rw [if_neg fun hh => hh.1 e]; simp
 · rw [if_neg e]
   by_cases a : t.1 = v
   · rw [if_pos a, sumN_one (c := t.2.1.toNat) (by omega)]
     · unfold ew; rw [if_pos ⟨e, .inl ⟨a, by omega⟩⟩]
     · intro u hu hne
       unfold ew
       rw [if_neg]
       · simp
       · rintro ⟨-, hh⟩
         rcases hh with hh | hh <;> omega
   · rw [if_neg a]
     by_cases b : t.2.1 = v
     · rw [if_pos b, sumN_one (c := t.1.toNat) (by omega)]
       · unfold ew; rw [if_pos ⟨e, .inr ⟨by omega, b⟩⟩]
       · intro u hu hne
         unfold ew
         rw [if_neg]
         · simp
         · rintro ⟨-, hh⟩
           rcases hh with hh | hh <;> omega
     · rw [if_neg b]
       exact sumN_zero fun u _ => by
         unfold ew
         rw [if_neg]
         · simp
         · rintro ⟨-, hh⟩
           rcases hh with hh | hh <;> omega
theorem lap_edges {n : Nat} {es : List Tri} (h : Ends n es) (s : Nat -> Int) (v : Nat) : lap n (wgt es) s v = lapE es s v := by
 induction es with
 | nil => exact sumN_zero fun u _ => by simp [wgt]
 | cons t r ih =>
   have h1 := sum_ew (h t (List.mem_cons_self ..)) (fun u => s v - s u) v
   have h2 := ih h.tail
   unfold lap at h2 ⊢
   simp only [wgt, Int.add_mul, lapE]
   rw [sumN_add, h2, h1]
   rfl
def joinT1 (t : Tri) (p : Nat -> Bool) (v : Nat) : Int := if t.1 ≠ t.2.1 /\ (t.1 = v \/ t.2.1 = v) /\ p (t.1 + t.2.1 - v).toNat = true then t.2.2 else 0
def joinE : List Tri -> (Nat -> Bool) -> Nat -> Int
 | [], _, _ => 0
 | t :: r, p, v => joinT1 t p v + joinE r p v
theorem join_edges {n : Nat} {es : List Tri} (h : Ends n es) (p : Nat -> Bool) (v : Nat) : joinw n (wgt es) p v = joinE es p v := by
 have e : ∀ (W : Nat -> Nat -> Int), joinw n W p v = sumN n fun u => W v u * if p u then 1 else 0 := fun W => by
   unfold joinw
   exact sumN_congr fun u _ => by split <;> simp
 rw [e]
 induction es with
 | nil => exact sumN_zero fun u _ => by simp [wgt]
 | cons t r ih =>
   have h1 := sum_ew (h t (List.mem_cons_self ..)) (fun u => if p u then 1 else 0) v
   have h2 := ih h.tail
   have h0 := h t (List.mem_cons_self ..)
   simp only [wgt, Int.add_mul, joinE]
   rw [sumN_add, h2, h1]
   congr 1
   unfold joinT1
   by_cases a : t.1 = t.2.1
   · rw [if_pos a, if_neg fun hh => hh.1 a]
   · rw [if_neg a]
     by_cases b : t.1 = v
     · rw [if_pos b, show t.1 + t.2.1 - v = t.2.1 by omega]
       by_cases c : p t.2.1.toNat = true
       · rw [if_pos c, if_pos ⟨a, .inl b, c⟩]; simp
       · rw [if_neg c, if_neg fun hh => c hh.2.2]; simp
     · rw [if_neg b]
       by_cases b2 : t.2.1 = v
       · rw [if_pos b2, show t.1 + t.2.1 - v = t.1 by omega]
         by_cases c : p t.1.toNat = true
         · rw [if_pos c, if_pos ⟨a, .inr b2, c⟩]; simp
         · rw [if_neg c, if_neg fun hh => c hh.2.2]; simp
       · rw [if_neg b2, if_neg fun hh => by rcases hh.2.1 with x | x <;> contradiction]
theorem joinE_le {es : List Tri} (h : ∀ t ∈ es, 0 <= t.2.2) (p : Nat -> Bool) (v : Nat) : 0 <= joinE es p v /\ joinE es p v <= multS es := by
 induction es with
 | nil => simp [joinE, multS]
 | cons t r ih =>
   have h1 := h t (List.mem_cons_self ..)
   have h2 := ih fun s hs => h s (List.mem_cons_of_mem _ hs)
   rw [multS_cons]
   have : 0 <= joinT1 t p v /\ joinT1 t p v <= t.2.2 := by unfold joinT1; split <;> omega
   simp only [joinE]; omega
end Go.Proofs.YteamhbohgoclgaaGreatDoor
