/- Contract of the checker's below.
   Contract of the checker's filled.
   Contract of the checker's of.
   Contract of the checker's right.
   The library functions behind the texts of numbers, as the shelf knows them, and their contracts.
   Contract of package proof's numbers: the text of numbers.
   Contracts of slices.Grow and slices.Concat at divisors. -/
import Derived.Test.YteamhbohgoclgaaGreatDoorP14
import Derived.Handy
import Derived.Lib.AppendIntMem
import Derived.Lib.AppendZerosOnto
import Derived.Lib.AtoiErrMem
import Derived.Shelf.Pu.ParseUintPublic10
import Derived.Shelf.Strconv.Itoa3
import Derived.Shelf.Strings.Builder1
set_option maxRecDepth 100000
set_option maxHeartbeats 16000000
namespace Go.Proofs.YteamhbohgoclgaaGreatDoor
open Go.RowKit Go.Shelf

theorem add_zero' (a : Addr) : a.add 0 = a := by cases a; simp [Addr.add]
theorem RI.pre {w : World} {a : Addr} {n c : Nat} {l : List Int} (h : RI w (.slice (some a) n c) l) {j : Nat} (hj : j ≤ l.length) : RI w (.slice (some a) j c) (l.take j) := by
  have := RI.sub h (i := 0) (j := j) (Nat.zero_le _) hj
  rw [add_zero', Nat.sub_zero, Nat.sub_zero, List.drop_zero] at this
  exact this
theorem RI.suf {w : World} {a : Addr} {n c : Nat} {l : List Int} (h : RI w (.slice (some a) n c) l) {i : Nat} (hi : i ≤ l.length) : RI w (.slice (some (a.add i)) (l.length - i) (c - i)) (l.drop i) := by
  have := RI.sub h (i := i) (j := l.length) hi (Nat.le_refl _)
  rw [List.take_of_length_le (Nat.le_refl _)] at this
  exact this
open Go.RowKit Go.Shelf

/-- What is left of the numbers of a claim behind its vertex and its bound. -/
def l1L (q : Bool) (l : List Int) : List Int := if q then l.drop 1 else l
def l2L (q n : Bool) (l : List Int) : List Int := l1L n (l1L q l)
def fillE (m : Nat) (q n b f : Bool) (l : List Int) : Int :=
  if q = true ∧ l = [] then 8 else if n = true ∧ l1L q l = [] then 8
  else if f = true then (if l2L q n l = [] ∨ (l2L q n l).getD 0 0 ≠ ((l2L q n l).length : Int) - 1 then 8 else 0)
  else if b = true then (if ((l2L q n l).length : Int) ≠ 2 * m then 8 else 0)
  else if ((l2L q n l).length : Int) ≠ m then 8 else 0
def fQ (q : Bool) (l : List Int) : Int := if q then l.getD 0 0 else 0
def fA (m : Nat) (b f : Bool) (l2 : List Int) : List Int := if f then [] else if b then l2.take m else l2
def fB (m : Nat) (b f : Bool) (l2 : List Int) : List Int := if f then [] else if b then l2.drop m else []
def fF (f : Bool) (l2 : List Int) : List Int := if f then l2.drop 1 else []
theorem RI.suf' {w : World} {A : Option Addr} {n c : Nat} {l : List Int} (h : RI w (.slice A n c) l) (hl : 1 ≤ l.length) (i : Nat) (hi : i ≤ l.length) : ∃ ad, A = some ad ∧ n = l.length ∧ l.length ≤ c ∧ RI w (.slice (if c = i then some ad else some (ad.add i)) (l.length - i) (c - i)) (l.drop i) := by
  obtain ⟨A', c', he, hlc, hmx, hcell⟩ := h.open_
  simp only [Value.slice.injEq] at he
  obtain ⟨rfl, rfl, rfl⟩ := he
  obtain ⟨ad, -, rfl, -⟩ := hcell 0 (by omega)
  refine ⟨ad, rfl, rfl, hlc, ?_⟩
  split
  · exact RI.emp List.length_drop (by omega) (by omega)
  · exact RI.suf h hi
theorem results_row_tmp {P : Program} {fn : Func} {p u : Tmp} {ty : TypeId} (h : fn.results = #[.cell p ty, .tmp u]) (tmps : Array Value) (w : World) (g : Nat) (t : TypeId) (cs : Array Value) (fr : Nat × Nat) (d : TypeDesc)
    (hp : tmps.getD p undef = .pointer (some ⟨g, 0, none⟩)) (hg : w.heap[g]? = some (.cells cs t fr))
    (hu : P.underlying ty = some d) (hd : (match d with | .struct _ | .array _ _ => true | _ => false) = true) (hi : (P.info? ty).map (·.size) = some cs.size) :
    (results fn tmps).run P w = .ok (.tuple #[.agg cs, tmps.getD u undef]) w := by
  have hp' : tmps[p]?.getD undef = .pointer (some ⟨g, 0, none⟩) := by simpa using hp
  simp [results, h, hp', asAddr, run_loadVar_row w g t ty cs fr d hg hu hd hi]
theorem BL.set6 {w : World} {b : Nat} {T : TypeId} {u0 u1 u2 u3 u4 u5 : Value} (h : BL w b T [u0, u1, u2, u3, u4, u5]) (v0 v1 v2 v3 v4 v5 : Value) :
    BL ((((((w.setCell ⟨b, 0, none⟩ v0).setCell ⟨b, 1, none⟩ v1).setCell ⟨b, 2, none⟩ v2).setCell ⟨b, 3, none⟩ v3).setCell ⟨b, 4, none⟩ v4).setCell ⟨b, 5, none⟩ v5) b T [v0, v1, v2, v3, v4, v5] :=
  (((((h.set 0 v0).set 1 v1).set 2 v2).set 3 v3).set 4 v4).set 5 v5
theorem below6 {w W : World} {B b : Nat} (h : Below B w W) (hb : B ≤ b) (v0 v1 v2 v3 v4 v5 : Value) :
    Below B w ((((((W.setCell ⟨b, 0, none⟩ v0).setCell ⟨b, 1, none⟩ v1).setCell ⟨b, 2, none⟩ v2).setCell ⟨b, 3, none⟩ v3).setCell ⟨b, 4, none⟩ v4).setCell ⟨b, 5, none⟩ v5) :=
  (((((h.setCell (p := ⟨b, 0, none⟩) hb v0).setCell (p := ⟨b, 1, none⟩) hb v1).setCell (p := ⟨b, 2, none⟩) hb v2).setCell (p := ⟨b, 3, none⟩) hb v3).setCell (p := ⟨b, 4, none⟩) hb v4).setCell (p := ⟨b, 5, none⟩) hb v5
theorem heap6 (W : World) (b g : Nat) (hg : g ≠ b) (v0 v1 v2 v3 v4 v5 : Value) :
    ((((((W.setCell ⟨b, 0, none⟩ v0).setCell ⟨b, 1, none⟩ v1).setCell ⟨b, 2, none⟩ v2).setCell ⟨b, 3, none⟩ v3).setCell ⟨b, 4, none⟩ v4).setCell ⟨b, 5, none⟩ v5).heap[g]? = W.heap[g]? := by
  rw [heap_setCell_other _ _ g _ hg, heap_setCell_other _ _ g _ hg, heap_setCell_other _ _ g _ hg, heap_setCell_other _ _ g _ hg, heap_setCell_other _ _ g _ hg, heap_setCell_other _ _ g _ hg]
open Go.RowKit Go.Shelf

/-- What the checker's of answers. -/
def ofE (n : Int) (es : List Tri) : Int := if gcheckE n es ≠ 0 then gcheckE n es else if connB n es = false then 13 else 0
open Go.RowKit Go.Shelf

/-- What is wrong with invariant factors, the first k of which were looked at. -/
def facE : Int → List Int → Int
  | _, [] => 0
  | p, f :: r => if f < 2 then 2 else if p ≠ 0 ∧ f % p ≠ 0 then 9 else facE f r
def rightE (m : Nat) (q n : Bool) (least Q N : Int) (fs : List Int) : Int :=
  if (q = true ∧ ¬ (0 ≤ Q ∧ Q < m)) ∨ (n = true ∧ (N < least ∨ 12 < N)) then 2 else if (fs.length : Int) > m - 1 then 5 else facE 0 fs
def lastF (fs : List Int) : Nat → Int
  | 0 => 0
  | k + 1 => fs.getD k 0
open Go.RowKit Go.Shelf

def layItoa_ren : Go.Shelf.Ren := ⟨fun | 171 => 94 | 243 => 138 | 246 => 190 | 283 => 246 | 284 => 247 | 285 => 248 | 286 => 249 | 129 => 303 | 317 => 302 | 318 => 304 | 319 => 305 | 320 => 306 | 337 => 338 | 338 => 339 | n => n, fun | 3 => 3 | 9 => 9 | 2 => 2 | 4 => 4 | 171 => 324 | 0 => 0 | 53 => 325 | 37 => 130 | 5 => 5 | 173 => 328 | 212 => 378 | 51 => 279 | 20 => 20 | 213 => 379 | 46 => 208 | 232 => 437 | 233 => 438 | n => n, fun | 17 => 3 | 18 => 6 | 19 => 7 | n => n⟩
theorem layItoa : Go.Proofs.LaysM.n171 Tryz.prog layItoa_ren := {
  mixed := by kernel_rfl
  f129 := Tryz.func303.trans (congrArg some (by kernel_rfl))
  f171 := Tryz.func94.trans (congrArg some (by kernel_rfl))
  f243 := Tryz.func138.trans (congrArg some (by kernel_rfl))
  f246 := Tryz.func190.trans (congrArg some (by kernel_rfl))
  f283 := Tryz.func246.trans (congrArg some (by kernel_rfl))
  f284 := Tryz.func247.trans (congrArg some (by kernel_rfl))
  f285 := Tryz.func248.trans (congrArg some (by kernel_rfl))
  f286 := Tryz.func249.trans (congrArg some (by kernel_rfl))
  f317 := Tryz.func302.trans (congrArg some (by kernel_rfl))
  f318 := Tryz.func304.trans (congrArg some (by kernel_rfl))
  f319 := Tryz.func305.trans (congrArg some (by kernel_rfl))
  f320 := Tryz.func306.trans (congrArg some (by kernel_rfl))
  f337 := Tryz.func338.trans (congrArg some (by kernel_rfl))
  f338 := Tryz.func339.trans (congrArg some (by kernel_rfl))
  t0 := Tryz.underlying0
  a0 := Tryz.isAgg0
  z0 := Tryz.sizeOf0
  v0 := Tryz.zeroValue0
  t2 := Tryz.underlying2
  a2 := Tryz.isAgg2
  z2 := Tryz.sizeOf2
  v2 := Tryz.zeroValue2
  t3 := Tryz.underlying3
  a3 := Tryz.isAgg3
  z3 := Tryz.sizeOf3
  v3 := Tryz.zeroValue3
  t4 := Tryz.underlying4
  a4 := Tryz.isAgg4
  z4 := Tryz.sizeOf4
  v4 := Tryz.zeroValue4
  t5 := Tryz.underlying5
  a5 := Tryz.isAgg5
  z5 := Tryz.sizeOf5
  v5 := Tryz.zeroValue5
  t9 := Tryz.underlying9
  a9 := Tryz.isAgg9
  z9 := Tryz.sizeOf9
  v9 := Tryz.zeroValue9
  t20 := Tryz.underlying20
  a20 := Tryz.isAgg20
  z20 := Tryz.sizeOf20
  v20 := Tryz.zeroValue20
  t37 := Tryz.underlying130
  a37 := Tryz.isAgg130
  z37 := Tryz.sizeOf130
  v37 := Tryz.zeroValue130
  t46 := Tryz.underlying208
  a46 := Tryz.isAgg208
  z46 := Tryz.sizeOf208
  v46 := Tryz.zeroValue208
  t51 := Tryz.underlying279
  a51 := Tryz.isAgg279
  z51 := Tryz.sizeOf279
  v51 := Tryz.zeroValue279
  t53 := Tryz.underlying325
  a53 := Tryz.isAgg325
  z53 := Tryz.sizeOf325
  v53 := Tryz.zeroValue325
  t171 := Tryz.underlying324
  a171 := Tryz.isAgg324
  z171 := Tryz.sizeOf324
  v171 := Tryz.zeroValue324
  t173 := Tryz.underlying328
  a173 := Tryz.isAgg328
  z173 := Tryz.sizeOf328
  v173 := Tryz.zeroValue328
  t212 := Tryz.underlying378
  a212 := Tryz.isAgg378
  z212 := Tryz.sizeOf378
  v212 := Tryz.zeroValue378
  t213 := Tryz.underlying379
  a213 := Tryz.isAgg379
  z213 := Tryz.sizeOf379
  t232 := Tryz.underlying437
  a232 := Tryz.isAgg437
  z232 := Tryz.sizeOf437
  v232 := Tryz.zeroValue437
  t233 := Tryz.underlying438
  a233 := Tryz.isAgg438
  z233 := Tryz.sizeOf438
  v233 := Tryz.zeroValue438
  g17 := by kernel_rfl
  g18 := by kernel_rfl
  g19 := by kernel_rfl
  i0 := by kernel_rfl
  i2 := by kernel_rfl
  i3 := by kernel_rfl
  i4 := by kernel_rfl
  i5 := by kernel_rfl
  i9 := by kernel_rfl
  i20 := by kernel_rfl
  i37 := by kernel_rfl
  i46 := by kernel_rfl
  i51 := by kernel_rfl
  i53 := by kernel_rfl
  i171 := by kernel_rfl
  i173 := by kernel_rfl
  i212 := by kernel_rfl
  i232 := by kernel_rfl
  i233 := by kernel_rfl
  m17 := by kernel_rfl
  m18 := by kernel_rfl
  m19 := by kernel_rfl }
def layWrite_ren : Go.Shelf.Ren := ⟨fun | 166 => 93 | 240 => 137 | 276 => 189 | n => n, fun | 70 => 140 | 9 => 9 | 3 => 3 | 75 => 144 | 0 => 0 | 72 => 142 | 37 => 130 | 4 => 4 | 164 => 265 | 80 => 72 | 5 => 5 | 20 => 20 | n => n, fun | n => n⟩
theorem layWrite : Go.Proofs.Lays.n166 Tryz.prog layWrite_ren := {
  mixed := by kernel_rfl
  f166 := Tryz.func93.trans (congrArg some (by kernel_rfl))
  f240 := Tryz.func137.trans (congrArg some (by kernel_rfl))
  f276 := Tryz.func189.trans (congrArg some (by kernel_rfl))
  t0 := Tryz.underlying0
  a0 := Tryz.isAgg0
  z0 := Tryz.sizeOf0
  v0 := Tryz.zeroValue0
  t3 := Tryz.underlying3
  a3 := Tryz.isAgg3
  z3 := Tryz.sizeOf3
  v3 := Tryz.zeroValue3
  t4 := Tryz.underlying4
  a4 := Tryz.isAgg4
  z4 := Tryz.sizeOf4
  v4 := Tryz.zeroValue4
  t9 := Tryz.underlying9
  a9 := Tryz.isAgg9
  z9 := Tryz.sizeOf9
  v9 := Tryz.zeroValue9
  t20 := Tryz.underlying20
  a20 := Tryz.isAgg20
  z20 := Tryz.sizeOf20
  v20 := Tryz.zeroValue20
  t37 := Tryz.underlying130
  a37 := Tryz.isAgg130
  z37 := Tryz.sizeOf130
  v37 := Tryz.zeroValue130
  t70 := Tryz.underlying140
  a70 := Tryz.isAgg140
  z70 := Tryz.sizeOf140
  v70 := Tryz.zeroValue140
  t72 := Tryz.underlying142
  a72 := Tryz.isAgg142
  z72 := Tryz.sizeOf142
  v72 := Tryz.zeroValue142
  t75 := Tryz.underlying144
  a75 := Tryz.isAgg144
  z75 := Tryz.sizeOf144
  v75 := Tryz.zeroValue144
  t164 := Tryz.underlying265
  a164 := Tryz.isAgg265
  z164 := Tryz.sizeOf265
  v164 := Tryz.zeroValue265 }
def layString_ren : Go.Shelf.Ren := ⟨fun | 169 => 95 | n => n, fun | 70 => 140 | 9 => 9 | 0 => 0 | 72 => 142 | 37 => 130 | 127 => 200 | 3 => 3 | 5 => 5 | n => n, fun | n => n⟩
theorem layString : Go.Proofs.Lays.n169 Tryz.prog layString_ren := {
  mixed := by kernel_rfl
  f169 := Tryz.func95.trans (congrArg some (by kernel_rfl))
  t0 := Tryz.underlying0
  a0 := Tryz.isAgg0
  z0 := Tryz.sizeOf0
  v0 := Tryz.zeroValue0
  t3 := Tryz.underlying3
  a3 := Tryz.isAgg3
  z3 := Tryz.sizeOf3
  v3 := Tryz.zeroValue3
  t9 := Tryz.underlying9
  a9 := Tryz.isAgg9
  z9 := Tryz.sizeOf9
  v9 := Tryz.zeroValue9
  t37 := Tryz.underlying130
  a37 := Tryz.isAgg130
  z37 := Tryz.sizeOf130
  v37 := Tryz.zeroValue130
  t70 := Tryz.underlying140
  a70 := Tryz.isAgg140
  z70 := Tryz.sizeOf140
  v70 := Tryz.zeroValue140
  t72 := Tryz.underlying142
  a72 := Tryz.isAgg142
  z72 := Tryz.sizeOf142
  v72 := Tryz.zeroValue142
  t127 := Tryz.underlying200
  a127 := Tryz.isAgg200
  z127 := Tryz.sizeOf200
  v127 := Tryz.zeroValue200 }
/-- What the library's table of powers of 10 holds. -/
def TB (w : World) : Prop := Go.Lib.TabIs Tryz.prog w "internal/strconv.uint64pow10" .u64 Go.Lib.pow10Tab
theorem TB.below {w w' : World} (h : TB w) (hb : Below w.heap.size w w') : TB w' := Go.Lib.tabBelow_of_tabIs h w' hb
theorem itoa_any (z : Int) (w : World) (h0 : -9223372036854775808 ≤ z) (h1 : z ≤ 9223372036854775807) (ht : TB w) :
    Calls Tryz.prog 94 #[.int .i64 z] w fun e w' => e = .returned (zV z) ∧ Below w.heap.size w w' :=
  (Go.Proofs.Any.strconv_Itoa layItoa z h0 h1 w ht).mono fun _ _ h => by
    obtain ⟨e, k, os, hw⟩ := h
    exact ⟨e, by rw [hw]; exact Go.Lib.below_grow _ _ (Nat.le_refl _) _ _⟩
theorem extraW : Go.Proofs.Builder.Extra Tryz.prog layWrite_ren := {
  sizeBuilder := by kernel_rfl
  liesBuilder := by kernel_rfl
  t5 := Tryz.underlying5
  a5 := Tryz.isAgg5
  z5 := Tryz.sizeOf5
  v5 := Tryz.zeroValue5
  infoByte := by kernel_rfl
  cellsByte := by kernel_rfl
  sizeByte := by kernel_rfl
  neB5 := by decide }
theorem extraS : Go.Proofs.Builder.Extra Tryz.prog layString_ren := {
  sizeBuilder := by kernel_rfl
  liesBuilder := by kernel_rfl
  t5 := Tryz.underlying5
  a5 := Tryz.isAgg5
  z5 := Tryz.sizeOf5
  v5 := Tryz.zeroValue5
  infoByte := by kernel_rfl
  cellsByte := by kernel_rfl
  sizeByte := by kernel_rfl
  neB5 := by decide }
open Go.RowKit Go.Shelf

/-- The text of numbers, each behind a blank. -/
def numT (l : List Int) : List UInt8 := l.flatMap (fun z => 32 :: Go.Lib.itoa z)
theorem numT_snoc (l : List Int) (z : Int) : numT (l ++ [z]) = numT l ++ 32 :: Go.Lib.itoa z := by
  unfold numT; rw [List.flatMap_append]; simp
/-- A builder that holds bytes. -/
def BU (w : World) (b : Nat) (s : List UInt8) : Prop := Go.Lib.IsBuilder 142 5 b b (Go.Lib.byteCells s) w
theorem BU.below {w w' : World} {b : Nat} {s : List UInt8} (h : BU w b s) (hb : Below w.heap.size w w') : BU w' b s := by
  have hx : ∀ p : Value, Go.Lib.BuilderAt 142 5 b b p (Go.Lib.byteCells s) w → Go.Lib.BuilderAt 142 5 b b p (Go.Lib.byteCells s) w' := fun p hp => by
    obtain ⟨h1, v, hv, ho, hn⟩ := hp
    have hlt : b < w.heap.size := by
      rcases Nat.lt_or_ge b w.heap.size with h' | h'
      · exact h'
      · simp [Array.getElem?_eq_none h'] at hv
    refine ⟨h1, v, (hb.block b hlt).trans hv, ?_, hn⟩
    exact ho.kept (row := none) ⟨hb.os, hb.tape, hb.output, hb.size, fun k hk _ => hb.block k hk⟩ (by cases v.ownBlock <;> simp)
  exact h.elim (fun h => .inl (hx _ h)) (fun h => .inr (hx _ h))
theorem BU.fresh (w : World) : BU (w.alloc (.cells #[.pointer none, .slice none 0 0] 142)) w.heap.size [] := Go.Lib.fresh_isBuilder _ _ _
/-- One more write. -/
theorem bwrite_any (b : Nat) (s t : List UInt8) (w : World) (h : BU w b s) (hs : s.length ≤ 1000000) (ht : t.length ≤ 1000000) (hbw : b ≤ w.heap.size) :
    Calls Tryz.prog 93 #[.pointer (some ⟨b, 0, none⟩), .string ⟨t.toArray⟩] w fun e w' => e = .returned (.tuple #[.int .i64 (t.length : Int), .nilIface]) ∧ BU w' b (s ++ t) ∧ Below b w w' := by
  have hsz : (⟨t.toArray⟩ : ByteArray).size = t.length := by simp [ByteArray.size]
  refine (Go.Proofs.Any.Builder_WriteString layWrite extraW b b (Go.Lib.byteCells s) ⟨t.toArray⟩ w h (by rw [hsz]; simp [Go.Lib.byteCells]; omega) hbw).mono fun _ _ h => ?_
  obtain ⟨e, hb, hw⟩ := h
  refine ⟨by rw [e, hsz], .inr ?_, hw⟩
  have : Go.Lib.byteCells (s ++ t) = Go.Lib.byteCells s ++ Go.Lib.strCells ⟨t.toArray⟩ := by
    simp [Go.Lib.byteCells, Go.Lib.strCells]
  rw [this]; exact hb
theorem bstring_any (b : Nat) (s : List UInt8) (w : World) (h : BU w b s) (hbw : b ≤ w.heap.size) :
    Calls Tryz.prog 95 #[.pointer (some ⟨b, 0, none⟩)] w fun e w' => e = .returned (.string ⟨s.toArray⟩) ∧ Below b w w' :=
  Go.Proofs.Any.Builder_String_any layString extraS b b s w h hbw
theorem ndig_lo : ∀ k v : Nat, k + 1 ≤ Go.Lib.nDigits v → 1 ≤ k → 10 ^ k ≤ v := by
  intro k
  induction k with
  | zero => intro v _ h0; omega
  | succ k ih =>
    intro v hv _
    by_cases hs : v < 10
    · rw [Go.Lib.nDigits_small hs] at hv; omega
    · rw [Go.Lib.nDigits_big hs] at hv
      by_cases hk : k = 0
      · subst hk; simp; omega
      · have := ih (v / 10) (by omega) (by omega)
        rw [Nat.pow_succ]
        have h2 := Nat.div_mul_le_self v 10
        have h3 := Nat.mul_le_mul_right 10 this
        omega
theorem dec_len19 (u : Nat) (h : u < 10000000000000000000) : (Go.Lib.decDigits u).length ≤ 19 := by
  rw [Go.Lib.decDigits_length]
  apply Classical.byContradiction
  intro hn
  have := ndig_lo 19 u (by omega) (by omega)
  omega
theorem itoa_len (z : Int) (h0 : -9223372036854775808 ≤ z) (h1 : z ≤ 9223372036854775807) : (Go.Lib.itoa z).length ≤ 20 := by
  have h := dec_len19 z.natAbs (by omega)
  rw [itoa_parts]
  split
  · rw [List.length_cons]; omega
  · omega
theorem pNumbers_any (v : Value) (l : List Int) (w : World) (hv : RI w v l) (hl : l.length ≤ 10000) (hr : ∀ z ∈ l, -9223372036854775808 ≤ z ∧ z ≤ 9223372036854775807) (ht : TB w) :
    Calls Tryz.prog 60 #[v] w fun e w' => e = .returned (.string ⟨(numT l).toArray⟩) ∧ Below w.heap.size w w' := by
  obtain ⟨A, c, rfl, hlc, -, hcell⟩ := hv.open_
  have HC := Hd hcell
  have HRn := Hd hr
  have HT := Hd ht
  obtain ⟨W0, hW0⟩ : ∃ W0, W0 = w.alloc (.cells #[.pointer none, .slice none 0 0] 142) := ⟨_, rfl⟩
  have hb0 : Below w.heap.size w W0 := by rw [hW0]; exact below_alloc w _
  have hu0 : BU W0 w.heap.size [] := by rw [hW0]; exact BU.fresh w
  have HB0 := Hd hb0
  have HU0 := Hd hu0
  have HW0 := Hd hW0
  have HNl : Hid (∀ k, k ≤ l.length → (numT (l.take k)).length ≤ 21 * k) := fun k => by
    induction k with
    | zero => intro _; simp [numT]
    | succ k ih =>
      intro hk
      have h1 := ih (by omega)
      rw [List.take_succ_eq_append_getElem (by omega), numT_snoc]
      have hz := hr _ (List.getElem_mem (show k < l.length by omega))
      have := itoa_len _ hz.1 hz.2
      simp only [List.length_append, List.length_cons]
      omega
  clear hv hcell hr ht hb0 hu0 hW0
  go_enter Tryz.func60, Tryz.ntmps60
  go_wp2_with fail
  rw [← HW0.out]
  go_loopw [8] (fun i wr => ∃ k : Nat, k ≤ l.length ∧ i = .int .i64 (k : Int) ∧ Hid (BU wr w.heap.size (numT (l.take k))) ∧ Hid (Below w.heap.size w wr)) (fun i _ => l.length - (intOf i).toNat)
  case atStart => exact ⟨0, Nat.zero_le _, rfl, HU0.out, HB0.out⟩
  case round =>
    obtain ⟨k, hk, rfl, hu, hb⟩ := hrel
    by_cases hlt : k < l.length
    · obtain ⟨ad, z, rfl, hab, hx, hcl⟩ := HC.out k hlt
      have hcw := (hb.out.cell (p := ad.add k) (by rw [block_of_add]; exact hab)).trans hcl
      have hzm : z ∈ l := List.mem_of_getElem? hx.out
      have hzr := HRn.out z hzm
      have HI := Hd (itoa_any z wr hzr.1 hzr.2 (HT.out.below hb.out))
      have hzl := itoa_len z hzr.1 hzr.2
      have hadd := fun W => run_string_add_lists (P := Tryz.prog) W [32] (Go.Lib.itoa z) (by simp) (by omega)
      have HSn : Hid (numT (l.take (k + 1)) = numT (l.take k) ++ 32 :: Go.Lib.itoa z) := by
        show _ = _
        rw [← numT_snoc]
        obtain ⟨h1, h2⟩ := List.getElem?_eq_some_iff.1 hx.out
        rw [List.take_succ_eq_append_getElem h1, h2]
      have HNk := Hd (HNl.out k hk)
      have HZl := Hd hzl
      unfold zV at HI
      rw [show [32] ++ Go.Lib.itoa z = 32 :: Go.Lib.itoa z from rfl] at hadd
      have HWr : Hid (∀ W, Below wr.heap.size wr W → Calls Tryz.prog 93 #[.pointer (some ⟨w.heap.size, 0, none⟩), .string ⟨(32 :: Go.Lib.itoa z).toArray⟩] W fun e w' => ∃ n, e = .returned (.tuple #[.int .i64 n, .nilIface]) ∧ BU w' w.heap.size (numT (l.take (k + 1))) ∧ Below w.heap.size W w') := fun W hW => by
        have h1 := bwrite_any w.heap.size (numT (l.take k)) (32 :: Go.Lib.itoa z) W (hu.out.below hW) (by have := HNk.out; omega) (by simp; have := HZl.out; omega) (by have := hb.out.size; have := hW.size; omega)
        rw [← HSn.out] at h1
        exact h1.mono fun _ _ h => ⟨_, h⟩
      generalize (ByteArray.mk (32 :: Go.Lib.itoa z).toArray) = P2 at *
      generalize (ByteArray.mk (Go.Lib.itoa z).toArray) = P1 at *
      clear hcl hx hzm hzr hzl hu HSn HNk HZl
      go_wp2_with fail
      refine HI.out.mono ?_
      rintro e w2 ⟨rfl, hb2⟩
      have HB2 := Hd (hb.out.trans (hb2.mono hb.out.size))
      have HWr2 := Hd (HWr.out w2 hb2)
      clear hb2 HWr HI
      go_wp2_with fail
      refine HWr2.out.mono ?_
      rintro e w3 ⟨n, rfl, hu3, hb3⟩
      have HB3 := Hd (HB2.out.trans hb3)
      have HU3 := Hd hu3
      clear hb3 hu3 HWr2
      go_wp2
      go_roundw
      case rel => exact ⟨k + 1, by omega, by go_num, HU3.out, HB3.out⟩
      case measure => simp [intOf]; omega
    · have HS := Hd (bstring_any w.heap.size (numT l) wr (by have h := hu.out; rwa [List.take_of_length_le (by omega)] at h) hb.out.size)
      obtain ⟨P2, hP2⟩ : ∃ P2, P2 = ByteArray.mk (numT l).toArray := ⟨_, rfl⟩
      rw [← hP2] at HS
      have HP2 := Hd hP2
      clear hu hP2
      go_wp2_with fail
      refine HS.out.mono ?_
      rintro e w3 ⟨rfl, hb3⟩
      have HB3 := Hd (hb.out.trans hb3)
      clear hb3
      go_wp2
      go_ret
      exact ⟨by rw [← HP2.out]; rfl, HB3.out⟩
open Go.RowKit Go.Shelf

theorem GrowD_any (n : Nat) (hn : n ≤ 1000000) (w : World) :
    Calls Tryz.prog 92 #[.slice none 0 0, .int .i64 (n : Int)] w fun e w' => ∃ v, e = .returned v ∧ OI w' w.heap.size v [] ∧ Below w.heap.size w w' := by
  obtain ⟨i0, hi, hz0, hz1, hz2⟩ := info_parts int_info
  rcases Nat.eq_zero_or_pos n with rfl | hp
  · go_enter Tryz.func92, Tryz.ntmps92
    go_wp2
    go_ret
    exact ⟨_, rfl, OI.nil_ _ _, Below.refl _ _⟩
  · have hold : (Builtin.firstCells i0.size 0 (.slice none 0 0)).run Tryz.prog w.drew = .ok (([] : List Value).toArray) w.drew := run_firstCells_none w.drew i0.size 0 0 0
    have hrz := fun ty => Go.Lib.run_append_grow_zeros (P := Tryz.prog) w 38 3 ty 3 i0 (.int .i64 0) .i64 .i64 Tryz.underlying38 Tryz.underlying3 hi hz0 none 0 0 [] hold n hp (by omega) (by omega) (by omega) (by rw [hz2]; omega)
      (by rw [Nat.zero_add]; exact growslice_fits (by omega) (by rw [hz2]; omega))
    have hGn : n ≤ grownCap w (0 + n) 0 3 := by have := grownCap_ge w (0 + n) 0 3; omega
    have hGm : grownCap w (0 + n) 0 3 ≤ maxLen := grownCap_le_maxLen w (0 + n) 0 3 (by unfold maxLen; omega)
    obtain ⟨G, hG⟩ : ∃ G, G = grownCap w (0 + n) 0 3 := ⟨_, rfl⟩
    rw [← hG] at hrz hGn hGm
    have HOi : Hid (OI ((w.alloc (.cells (Builtin.zeroCells #[.int .i64 0] n ++ Builtin.zeroCells #[.int .i64 0] (G - n)) 3)).drew) w.heap.size (.slice (some ⟨w.heap.size, 0, none⟩) 0 G) []) := by
      refine ⟨⟨by simp, .inr ⟨w.heap.size, G, _, rfl, Nat.le_refl _, heap_alloc_new w _, Nat.zero_le _, hGm, ?_, by simp⟩⟩, by simp⟩
      simp [Builtin.zeroCells]
      omega
    have HBl : Hid (Below w.heap.size w ((w.alloc (.cells (Builtin.zeroCells #[.int .i64 0] n ++ Builtin.zeroCells #[.int .i64 0] (G - n)) 3)).drew)) := (below_alloc w _).drew
    have hg63 : G ≤ 9223372036854775807 := by unfold maxLen at hGm; omega
    rw [Nat.zero_add] at hrz
    clear hold hG
    go_enter Tryz.func92, Tryz.ntmps92
    go_wp2_with (at_builtin; refine Go.Lib.wpList_append_run _ rfl _ _ _ _ rfl _ _ rfl rfl _ _ (hrz _) ?_)
    all_goals
      go_wp2
      go_ret
      exact ⟨_, rfl, HOi.out, HBl.out⟩
theorem flat_take (ll : List (List Int)) (k : Nat) (l : List Int) (h : ll[k]? = some l) : (ll.take (k + 1)).flatten = (ll.take k).flatten ++ l := by
  obtain ⟨h1, rfl⟩ := List.getElem?_eq_some_iff.1 h
  rw [List.take_succ_eq_append_getElem h1, List.flatten_append]; simp
theorem flat_len (ll : List (List Int)) (hs : ∀ l ∈ ll, l.length ≤ 10000) : ll.flatten.length ≤ 10000 * ll.length := by
  induction ll with
  | nil => simp
  | cons a r ih =>
    have h1 := hs a (by simp)
    have h2 := ih (fun l h => hs l (by simp [h]))
    simp only [List.flatten_cons, List.length_append, List.length_cons]; omega
theorem ConcatD_any (v : Value) (ll : List (List Int)) (w : World) (h : RR w v ll) (hl : ll.length ≤ 100) (hs : ∀ l ∈ ll, l.length ≤ 10000) :
    Calls Tryz.prog 59 #[v] w fun e w' => ∃ vo, e = .returned vo ∧ OI w' w.heap.size vo ll.flatten ∧ Below w.heap.size w w' := by
  obtain ⟨i0, hi, hz0, hz1, hz2⟩ := info_parts int_info
  obtain ⟨A, c, rfl, -, -, hcell⟩ := h.open_
  have HC := Hd hcell
  have HSt : Hid (∀ k l, ll[k]? = some l → (ll.take (k + 1)).flatten = (ll.take k).flatten ++ l) := fun k l => flat_take ll k l
  have HLe : Hid (∀ k, (ll.take k).flatten.length ≤ 1000000) := fun k => by
    have h1 := flat_len (ll.take k) (fun l h => hs l (List.mem_of_mem_take h))
    rw [List.length_take] at h1
    omega
  have HAl : Hid (ll.take ll.length = ll) := List.take_of_length_le (Nat.le_refl _)
  clear hcell h hs
  go_enter Tryz.func59, Tryz.ntmps59
  go_wp2_with fail
  go_loopw [3, 11] (fun n i wr => ∃ k : Nat, k ≤ ll.length ∧ i = .int .i64 (k : Int) ∧ n = .int .i64 ((ll.take k).flatten.length : Nat) ∧ wr = w) (fun _ i _ => ll.length - (intOf i).toNat)
  case atStart => exact ⟨0, Nat.zero_le _, rfl, rfl, rfl⟩
  case round =>
    obtain ⟨k, hk, rfl, rfl, rfl⟩ := hrel
    have hn1 := HLe.out k
    by_cases hlt : k < ll.length
    · obtain ⟨ad, zs, A1, c1, rfl, hab, hx, hcl, hri⟩ := HC.out k hlt
      have HS1 := Hd (HSt.out k zs hx.out)
      have hn2 := HLe.out (k + 1)
      rw [HS1.out, List.length_append] at hn2
      obtain ⟨s, hs⟩ : ∃ s, s = (ll.take k).flatten.length := ⟨_, rfl⟩
      rw [← hs] at hn1 hn2 ⊢
      have HSs := Hd hs
      have h3 : wrap64 ((s : Int) + (zs.length : Int)) = (s : Int) + (zs.length : Int) := by rw [IntWalk.wrap64_in] <;> omega
      have h4 : ¬ ((s : Int) + (zs.length : Int) < 0) := by omega
      clear hx hri hs
      go_wp2
      go_roundw
      case rel => exact ⟨k + 1, by omega, by go_num, by rw [HS1.out, List.length_append, ← HSs.out]; go_num, trivial⟩
      case measure => simp [intOf]; omega
    · have hke : Hid ((ll.take k).flatten.length = ll.flatten.length) := by show _ = _; rw [List.take_of_length_le (by omega)]
      have HGr := Hd (GrowD_any ll.flatten.length (by rw [← hke.out]; exact hn1) wr)
      rw [hke.out] at hn1 ⊢
      obtain ⟨s, hs⟩ : ∃ s, s = ll.flatten.length := ⟨_, rfl⟩
      rw [← hs] at HGr hn1 ⊢
      clear hke hs
      go_wp2_with fail
      refine HGr.out.mono ?_
      rintro e w2 ⟨vg, rfl, hog, hb2⟩
      have HOg := Hd hog
      have HB2 := Hd hb2
      clear hog hb2 HGr
      obtain ⟨w0, rfl⟩ : ∃ w0, w0 = wr := ⟨_, rfl⟩
      go_wp2_with fail
      go_loopw [6, 27] (fun o i wr => ∃ (k : Nat) (vo : Value), vo = o ∧ k ≤ ll.length ∧ i = .int .i64 (k : Int) ∧ Hid (OI wr w0.heap.size o (ll.take k).flatten) ∧ Hid (Below w0.heap.size w0 wr)) (fun _ i _ => ll.length - (intOf i).toNat)
      case atStart => exact ⟨0, _, rfl, Nat.zero_le _, rfl, HOg.out, HB2.out⟩
      case round =>
        obtain ⟨k, vo, rfl, hk, rfl, ho, hb⟩ := hrel
        by_cases hlt : k < ll.length
        · obtain ⟨ad, zs, A1, c1, rfl, hab, hx, hcl, hri⟩ := HC.out k hlt
          have hcw := (hb.out.cell (p := ad.add k) (by rw [block_of_add]; exact hab)).trans hcl
          have HS1 := Hd (HSt.out k zs hx.out)
          have HOv : Hid (OV wr w0.heap.size 3 vo ((ll.take k).flatten.map (.int .i64))) := ho.out
          have HRv : Hid (RV wr (.slice A1 zs.length c1) (zs.map (.int .i64))) := RI.below hri hb.out
          have HX := Hd (ints_one zs)
          have hn1 := HLe.out k
          have hn2 := HLe.out (k + 1)
          rw [HS1.out, List.length_append] at hn2
          have HO0 := ho
          generalize (ll.take k).flatten = os at *
          clear hx hri hcl ho
          go_wp2_with (at_builtin; refine wpList_appendV _ rfl _ _ _ rfl 3 i0 _ 8 Tryz.underlying37 hi hz0 hz1 hz2 rfl w0.heap.size _ _ rfl HOv.out _ _ rfl HRv.out HX.out (by first | omega | (simp; omega)) (by first | omega | (simp; omega)) (by first | omega | (simp; omega) | (have := hb.out.size; omega)) ?_; intro v1 w3 hown hg hat)
          have HF1 : Hid (OI w3 w0.heap.size v1 (os ++ zs)) := by show OV _ _ _ _ _; rw [List.map_append]; exact hown
          have HF2 : Hid (Below w0.heap.size w0 w3) := below_own hb.out hb.out.size HO0.out hg
          clear hown hg hat
          go_wp2
          go_roundw
          case rel => exact ⟨k + 1, _, rfl, by omega, by go_num, by rw [HS1.out]; exact HF1.out, HF2.out⟩
          case measure => simp [intOf]; omega
        · have hF : Hid (OI wr w0.heap.size vo ll.flatten) := by have h := ho.out; rwa [List.take_of_length_le (by omega)] at h
          clear ho
          go_wp2
          go_ret
          exact ⟨_, rfl, hF.out, hb.out⟩
end Go.Proofs.YteamhbohgoclgaaGreatDoor

