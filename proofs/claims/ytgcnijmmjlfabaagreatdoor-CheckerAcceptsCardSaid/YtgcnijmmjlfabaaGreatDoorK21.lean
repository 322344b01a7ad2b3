/- A slice of edges that the call owns, with one more behind it.
   Contract of the checker's lines.
   Contract of the checker's head. -/
import Derived.Test.YtgcnijmmjlfabaaGreatDoorK20
import Derived.Test.YtgcnijmmjlfabaaGreatDoorK00
set_option maxRecDepth 100000
set_option maxHeartbeats 16000000
namespace Go.Proofs.YtgcnijmmjlfabaaGreatDoor
open Go.RowKit Go.Shelf

def flatE (es : List Tri) : List Value := es.flatMap fun p => [.int .i64 p.1, .int .i64 p.2.1, .int .i64 p.2.2]
theorem flatE_get : ∀ (ps : List Tri) (k : Nat) (p : Tri), ps[k]? = some p → (flatE ps)[k * 3]? = some (.int .i64 p.1) ∧ (flatE ps)[k * 3 + 1]? = some (.int .i64 p.2.1) ∧ (flatE ps)[k * 3 + 2]? = some (.int .i64 p.2.2) := by
  intro ps
  induction ps with
  | nil => intro k p h; simp at h
  | cons q r ih =>
    intro k p h
    cases k with
    | zero => simp only [List.getElem?_cons_zero, Option.some.injEq] at h; subst h; simp [flatE]
    | succ k =>
      simp only [List.getElem?_cons_succ] at h
      obtain ⟨h1, h2, h3⟩ := ih k p h
      have e : flatE (q :: r) = .int .i64 q.1 :: .int .i64 q.2.1 :: .int .i64 q.2.2 :: flatE r := by simp [flatE]
      rw [e, show (k + 1) * 3 = k * 3 + 1 + 1 + 1 by omega]
      simp only [List.getElem?_cons_succ]
      exact ⟨h1, h2, h3⟩
/-- A slice of edges that the call owns. -/
def OE (w : World) (B : Nat) (v : Value) (ps : List Tri) : Prop := w.ownsRow B 52 3 v ps.length (flatE ps) ∧ ps.length ≤ 1000000
theorem OE.below {w w' : World} {B : Nat} {v : Value} {ps : List Tri} (h : OE w B v ps) (hb : Below w.heap.size w w') : OE w' B v ps :=
  ⟨h.1.kept (row := none) ⟨hb.os, hb.tape, hb.output, hb.size, fun k hk _ => hb.block k hk⟩ (by cases v.ownBlock <;> simp), h.2⟩
theorem OE.nil_ (w : World) (B : Nat) : OE w B (.slice none 0 0) [] := ⟨World.ownsRow_nil w B _ 3, by simp⟩
theorem OE.shape {w : World} {B : Nat} {v : Value} {ps : List Tri} (h : OE w B v ps) : ∃ A c, v = .slice A ps.length c := by
  rcases h.1.2 with ⟨rfl, hn⟩ | ⟨g, cap, cur, rfl, _⟩
  · exact ⟨none, 0, by rw [hn]⟩
  · exact ⟨_, cap, rfl⟩
theorem OE.shape1 {w : World} {B : Nat} {v : Value} {ps : List Tri} (h : OE w B v ps) (hl : 1 ≤ ps.length) : ∃ g cap, v = .slice (some ⟨g, 0, none⟩) ps.length cap ∧ B ≤ g ∧ g < w.heap.size := by
  rcases h.1.2 with ⟨_, hn⟩ | ⟨g, cap, cur, rfl, hg, hh, _⟩
  · omega
  · exact ⟨g, cap, rfl, hg, lt_of_block hh⟩
theorem OE.block_ {w : World} {B : Nat} {v : Value} {ps : List Tri} (h : OE w B v ps) {g : Nat} (hg : v.ownBlock = some g) : ∃ cur, w.heap[g]? = some (.cells cur 52 (0, 0)) ∧ B ≤ g ∧ g < w.heap.size := by
  rcases h.1.2 with ⟨rfl, _⟩ | ⟨g', cap, cur, rfl, hB, hh, _⟩
  · simp [Value.ownBlock] at hg
  · simp only [Value.ownBlock, Option.some.injEq] at hg
    subst hg
    exact ⟨cur, hh, hB, lt_of_block hh⟩
theorem OE.keepG {w w' : World} {B : Nat} {v : Value} {ps : List Tri} (h : OE w B v ps) (hk : ∀ g, v.ownBlock = some g → w'.heap[g]? = w.heap[g]?) : OE w' B v ps := by
  refine ⟨⟨h.1.1, ?_⟩, h.2⟩
  rcases h.1.2 with h2 | ⟨g, cap, cur, hv, hg, hh, r'⟩
  · exact .inl h2
  · exact .inr ⟨g, cap, cur, hv, hg, (hk g (by rw [hv]; rfl)).trans hh, r'⟩
theorem OE.ne_bl {w : World} {B b : Nat} {v : Value} {ps : List Tri} {T : TypeId} {us : List Value} (h : OE w B v ps) (hb : BL w b T us) (hT : T ≠ 52) {g : Nat} (hg : v.ownBlock = some g) : g ≠ b := by
  rintro rfl
  obtain ⟨c, hc, _⟩ := h.block_ hg
  unfold BL at hb; rw [hb] at hc; simp only [Option.some.injEq, Obj.cells.injEq] at hc; exact hT hc.2.1
theorem OE.set {w : World} {B b : Nat} {v : Value} {ps : List Tri} {T : TypeId} {us : List Value} (h : OE w B v ps) (hb : BL w b T us) (hT : T ≠ 52) (i : Nat) (x : Value) : OE (w.setCell ⟨b, i, none⟩ x) B v ps := by
  refine h.keepG fun g hg => ?_
  exact heap_setCell_other w _ g x (fun e => h.ne_bl hb hT hg e)
/-- An own list of edges with one more behind it. -/
theorem run_append_tri {P : Program} (w : World) (t ty : TypeId) (i : TypeInfo) (z : Value) (bytes : Nat) (ht : P.underlying t = some (.slice 52)) (hi : P.info? 52 = some i) (hz : i.zero = some z)
    (hsize : i.size = 3) (hby : i.bytes = bytes) (hby2 : bytes ≤ 1000) (hzs : z.cells.size = 3) (B : Nat) (v : Value) (ps : List Tri) (hown : OE w B v ps) (a b c : Int) (hb : ps.length ≤ 999999) (hB : B ≤ w.heap.size) :
    ∃ g cap w', (Builtin.append_ #[t, t] ty #[v, .slice (some ⟨w.heap.size, 0, none⟩) 1 1]).run P (w.alloc (.cells #[.int .i64 a, .int .i64 b, .int .i64 c] 52)) = .ok (.slice (some ⟨g, 0, none⟩) (ps.length + 1) cap) w' ∧
      OE w' B (.slice (some ⟨g, 0, none⟩) (ps.length + 1) cap) (ps ++ [(a, b, c)]) ∧ (w.alloc (.cells #[.int .i64 a, .int .i64 b, .int .i64 c] 52)).grownBy w' v.ownBlock ∧ (v.ownBlock = some g ∨ g = w.heap.size + 1) := by
  have hm : (ps.length + 1) * bytes ≤ 1000001 * 1000 := Nat.mul_le_mul (by omega) hby2
  obtain ⟨v', w', hrun, ho, hg, -, hat⟩ := run_append_own_at (P := P) (w.alloc (.cells #[.int .i64 a, .int .i64 b, .int .i64 c] 52)) B t ty 52 i z 3 bytes ht hi hz hsize hby hzs (by omega) v ps.length (flatE ps) (OE.below hown (below_alloc w _)).1
    ⟨w.heap.size, 0, none⟩ 1 1 [.int .i64 a, .int .i64 b, .int .i64 c] rfl (fun j u hu => by
      have h := (BL.new' w #[.int .i64 a, .int .i64 b, .int .i64 c] 52).cell j
      have e : (⟨w.heap.size, 0, none⟩ : Addr).add j = ⟨w.heap.size, j, none⟩ := by unfold Addr.add; split <;> simp_all
      rw [e, h]; exact hu) (fun u hu => by
      simp only [List.mem_cons, List.not_mem_nil, or_false] at hu
      rcases hu with rfl | rfl | rfl <;> rfl) (by unfold maxLen; omega) (by omega) (by simp; omega)
  have hown' : OE w' B v' (ps ++ [(a, b, c)]) := ⟨by simpa [flatE] using ho, by simp; omega⟩
  obtain ⟨g, cap, rfl, -, -⟩ := hown'.shape1 (by simp)
  simp only [List.length_append, List.length_singleton] at hrun hown'
  refine ⟨g, cap, w', hrun, hown', hg, ?_⟩
  rcases hat with h | h
  · exact .inl (by rw [← h]; rfl)
  · right
    simp only [Value.ownBlock, World.size_alloc, Option.some.injEq] at h
    exact h
theorem edge_info : (Tryz.prog.info? 52).map (fun i => (i.zero, i.size, i.bytes)) = some (some (.agg #[.int .i64 0, .int .i64 0, .int .i64 0]), 3, 24) := by kernel_rfl
theorem OE.ev {w : World} {B : Nat} {v : Value} {ps : List Tri} (h : OE w B v ps) : EV w v ps := by
  have hlen := h.2
  rcases h.1.2 with ⟨rfl, hn⟩ | ⟨g, cap, cur, rfl, _, hh, hc, _⟩
  · exact ⟨none, 0, by rw [hn], by omega, by omega, fun k hk => by omega⟩
  · refine ⟨_, cap, rfl, by omega, by omega, fun k hk => ?_⟩
    obtain ⟨h1, h2, h3⟩ := flatE_get ps k ps[k] (List.getElem?_eq_getElem hk)
    refine ⟨⟨g, 0, none⟩, ps[k].1, ps[k].2.1, ps[k].2.2, rfl, lt_of_block hh, List.getElem?_eq_getElem hk, ?_, ?_, ?_⟩
    · rw [addr_addz, h.1.cellAt _ (by omega)]; exact h1
    · rw [addr_addz]; show w.cell? ⟨g, k * 3 + 1, none⟩ = _; rw [h.1.cellAt _ (by omega)]; exact h2
    · rw [addr_addz]; show w.cell? ⟨g, k * 3 + 2, none⟩ = _; rw [h.1.cellAt _ (by omega)]; exact h3
end Go.Proofs.YtgcnijmmjlfabaaGreatDoor

namespace Go.Proofs.YtgcnijmmjlfabaaGreatDoor
open Go.RowKit Go.Shelf

/-- Whether a log's lines do not end with a line feed. -/
def tornB (s : List UInt8) : Bool := decide ((splitL 10 s).length = 1) || decide ((splitL 10 s).getD ((splitL 10 s).length - 1) [] ≠ [])
def linesE (s : List UInt8) : Int := if 65536 < s.length then 19 else if tornB s = true then 20 else 0
def linesN (s : List UInt8) : Int := if 65536 < s.length then 0 else if tornB s = true then (((splitL 10 s).length - 1 : Nat) : Int) else 0
def linesV (s : List UInt8) : List (List UInt8) := (splitL 10 s).take ((splitL 10 s).length - 1)
theorem RS.pre {w : World} {a : Addr} {n c : Nat} {l : List (List UInt8)} (h : RS w (.slice (some a) n c) l) {j : Nat} (hj : j ≤ l.length) : RS w (.slice (some a) j c) (l.take j) := by
  obtain ⟨A, c', he, h2, h3, h4⟩ := h
  simp only [List.length_map, Value.slice.injEq] at he h2 h3 h4
  obtain ⟨rfl, rfl, rfl⟩ := he
  have hl : ((l.take j).map strV).length = j := by rw [List.length_map, List.length_take]; omega
  refine ⟨some a, c, by rw [hl], by rw [hl]; omega, by rw [hl]; omega, fun k hk => ?_⟩
  rw [hl] at hk
  obtain ⟨ad, e, hb, hc⟩ := h4 k (by omega)
  refine ⟨ad, e, hb, ?_⟩
  rw [hc, List.getElem?_map, List.getElem?_map, List.getElem?_take_of_lt (by omega)]
theorem str_ne (x : List UInt8) : (ByteArray.mk x.toArray).toList.isEmpty = !decide (x ≠ []) := by
  rw [ByteArray.toList_mk]
  cases x <;> simp
theorem kLines_any (s : List UInt8) (w : World) (hlv : LV w) :
    Calls Tryz.prog 32 #[strV s] w fun e w' => ∃ v, e = .returned (.tuple #[v, .int .i64 (linesN s), .int .i64 (linesE s)]) ∧ (linesE s = 0 → RS w' v (linesV s)) ∧ Below w.heap.size w w' := by
  by_cases hl : 65536 < s.length
  · have hsz : (⟨s.toArray⟩ : ByteArray).size = s.length := by simp [ByteArray.size]
    have e1 : linesE s = 19 := by unfold linesE; rw [if_pos hl]
    have e2 : linesN s = 0 := by unfold linesN; rw [if_pos hl]
    rw [e1, e2, show strV s = .string ⟨s.toArray⟩ from rfl]
    generalize (⟨s.toArray⟩ : ByteArray) = B at *
    clear hlv e1 e2
    go_enter Tryz.func32, Tryz.ntmps32
    go_wp2
    go_ret3
    exact ⟨.slice none 0 0, rfl, fun h => absurd h (by decide), Below.refl _ _⟩
  · have hs1 : s.length ≤ 65536 := by omega
    have HSp := Lib.hid (split_any s 10 w hlv (by omega))
    have hsz : (⟨s.toArray⟩ : ByteArray).size = s.length := by simp [ByteArray.size]
    have e1 : Hid (linesE s = if tornB s = true then 20 else 0) := by show _ = _; unfold linesE; rw [if_neg hl]
    have e2 : Hid (linesN s = if tornB s = true then (((splitL 10 s).length - 1 : Nat) : Int) else 0) := by show _ = _; unfold linesN; rw [if_neg hl]
    have e3 : Hid (linesV s = (splitL 10 s).take ((splitL 10 s).length - 1)) := rfl
    have e4 : Hid (tornB s = (decide ((splitL 10 s).length = 1) || decide ((splitL 10 s).getD ((splitL 10 s).length - 1) [] ≠ []))) := rfl
    generalize linesE s = E at *
    generalize linesN s = N at *
    generalize linesV s = V at *
    generalize tornB s = T at *
    have hne := splitL_ne 10 s
    have hsl := splitL_length 10 s
    generalize splitL 10 s = ws at *
    have hw0 : 0 < ws.length := List.length_pos_iff.2 hne
    rw [show strV s = .string ⟨s.toArray⟩ from rfl] at *
    generalize (⟨s.toArray⟩ : ByteArray) = B at *
    obtain ⟨n, hn⟩ : ∃ n, ws.length = n + 1 := ⟨ws.length - 1, by omega⟩
    rw [hn] at e2 e3 e4
    simp only [Nat.add_sub_cancel] at e2 e3 e4
    have HN := Lib.hid hn
    have hB : B.size ≤ 65536 := by omega
    clear hlv hne hl hs1 hsl hsz hn hw0
    go_enter Tryz.func32, Tryz.ntmps32
    go_upto_region 3 with fail
    go_wp2_with fail
    refine HSp.out.mono ?_
    rintro e w1 ⟨v, rfl, hr, hb1⟩
    obtain ⟨A, c, rfl, hlc, hcl⟩ := hr.open_
    have hn := HN.out
    obtain ⟨ad, rfl, had, -⟩ := hcl 0 (by omega)
    have HR1 := Lib.hid hr
    have HB1 := Lib.hid hb1
    rw [hn] at HR1 hlc
    rw [hn]
    by_cases h0 : n = 0
    · subst h0
      have hT : T = true := by rw [e4.out]; rfl
      have hE : Hid (E = 20) := by show _ = _; rw [e1.out, hT]; rfl
      have hN : Hid (N = 0) := by show _ = _; rw [e2.out, hT]; rfl
      clear e1 e2 e3 e4 HSp hcl hn
      clear hT
      go_wp2
      go_ret3
      exact ⟨.slice none 0 0, by rw [hE.out, hN.out]; rfl, fun h => absurd (hE.out.symm.trans h) (by decide), HB1.out⟩
    · obtain ⟨ad', e, hadb, hcn⟩ := hcl n (by omega)
      cases e
      have hx : T = decide (ws.getD n [] ≠ []) := by rw [e4.out, decide_eq_false (by omega), Bool.false_or]
      have hse := str_ne (ws.getD n [])
      rw [show strV (ws.getD n []) = .string ⟨(ws.getD n []).toArray⟩ from rfl] at hcn
      generalize (⟨(ws.getD n []).toArray⟩ : ByteArray) = Z at *
      have hTT : Z.toList.isEmpty = !T := by rw [hse, hx]
      have hls' : (n : Int) < 9223372036854775807 := by
        obtain ⟨_, _, _, _, hq, _⟩ := hr
        simp only [List.length_map] at hq
        omega
      have hls2 : n < 9223372036854775807 := by omega
      clear hls'
      have h0' : 0 < n := by omega
      have HV := Lib.hid (hr.pre (j := n) (by omega))
      rw [← e3.out] at HV
      clear hx hse e4 hcl HSp hr hb1 had hadb hn h0
      cases T
      · have hTT' : Z.toList.isEmpty = true := hTT
        clear hTT
        have hE : Hid (E = 0) := by show _ = _; rw [e1.out]; rfl
        have hN : Hid (N = 0) := by show _ = _; rw [e2.out]; rfl
        clear e1 e2
        go_wp2
        go_ret3
        exact ⟨_, by rw [hE.out, hN.out]; rfl, fun h => HV.out, HB1.out⟩
      · have hTT' : Z.toList.isEmpty = false := hTT
        clear hTT
        have hE : Hid (E = 20) := by show _ = _; rw [e1.out]; rfl
        have hN : Hid (N = n) := by show _ = _; rw [e2.out]; rfl
        clear e1 e2
        go_wp2
        go_ret3
        exact ⟨.slice none 0 0, by rw [hE.out, hN.out]; rfl, fun h => absurd (hE.out.symm.trans h) (by decide), HB1.out⟩
end Go.Proofs.YtgcnijmmjlfabaaGreatDoor

namespace Go.Proofs.YtgcnijmmjlfabaaGreatDoor
open Go.RowKit Go.Shelf

/-- A list of numbers, read as edges. -/
def triL : List Int → List Tri
  | a :: b :: c :: r => (a, b, c) :: triL r
  | _ => []
def hdW (s : List UInt8) : List Int := numsV ((splitL 32 s).drop 1)
def hdN (s : List UInt8) : Int := (hdW s).getD 0 0
def hdT (s : List UInt8) : List Tri := triL ((hdW s).drop 1)
/-- What head answers. -/
def hdE (s : List UInt8) : Int :=
  if (splitL 32 s).getD 0 [] ≠ [103, 114, 97, 112, 104] ∨ (splitL 32 s).length % 3 ≠ 2 then 4
  else if numsE ((splitL 32 s).drop 1) ≠ 0 then numsE ((splitL 32 s).drop 1) else ofE (hdN s) (hdT s)
theorem triL_snoc (l : List Int) (k : Nat) (a b c : Int) (h : l.drop (3 * k) = a :: b :: c :: l.drop (3 * (k + 1))) : triL (l.take (3 * (k + 1))) = triL (l.take (3 * k)) ++ [(a, b, c)] := by
  induction k generalizing l with
  | zero =>
    simp only [Nat.mul_zero, List.drop_zero] at h
    rw [h]
    simp [triL]
  | succ k ih =>
    match l, h with
    | x :: y :: z :: r, h =>
      have e1 : 3 * (k + 1) = 3 * k + 1 + 1 + 1 := by omega
      have e2 : 3 * (k + 1 + 1) = 3 * (k + 1) + 1 + 1 + 1 := by omega
      rw [e1, e2] at h
      simp only [List.drop_succ_cons] at h
      rw [e1, e2]
      simp only [List.take_succ_cons, triL, List.cons_append]
      rw [ih r h]
    | [], h => have := congrArg List.length h; simp only [List.length_drop, List.length_cons, List.length_nil] at this; omega
    | [x], h => have := congrArg List.length h; simp only [List.length_drop, List.length_cons, List.length_nil] at this; omega
    | [x, y], h => have := congrArg List.length h; simp only [List.length_drop, List.length_cons, List.length_nil] at this; omega
theorem triL_len (l : List Int) (k : Nat) (h : l.length = 3 * k) : (triL l).length = k := by
  induction k generalizing l with
  | zero =>
    have : l = [] := List.length_eq_zero_iff.1 (by omega)
    subst this; rfl
  | succ k ih =>
    match l, h with
    | x :: y :: z :: r, h => simp only [triL, List.length_cons] at h ⊢; rw [ih r (by omega)]
    | [], h => have h' : 0 = 3 * (k + 1) := h; omega
    | [x], h => have h' : 1 = 3 * (k + 1) := h; omega
    | [x, y], h => have h' : 2 = 3 * (k + 1) := h; omega
theorem kHead_any (s : List UInt8) (w : World) (hlv : LV w) (hs : s.length ≤ 90000) :
    Calls Tryz.prog 34 #[strV s] w fun e w' => ∃ v, e = .returned (.tuple #[v, .int .i64 (hdE s)]) ∧ (hdE s = 0 → GX w' v (hdN s).toNat (hdT s)) ∧ Below w.heap.size w w' := by
  have HSp := Lib.hid (split_any s 32 w hlv (by omega))
  have hwp := splitL_part 32 s
  have hsl := splitL_length 32 s
  have hwn := splitL_ne 32 s
  have HN0 : Hid (hdN s = (numsV ((splitL 32 s).drop 1)).getD 0 0) := rfl
  have HT0 : Hid (hdT s = triL ((numsV ((splitL 32 s).drop 1)).drop 1)) := rfl
  have HE0 : Hid (hdE s = if (splitL 32 s).getD 0 [] ≠ [103, 114, 97, 112, 104] ∨ (splitL 32 s).length % 3 ≠ 2 then 4
    else if numsE ((splitL 32 s).drop 1) ≠ 0 then numsE ((splitL 32 s).drop 1) else ofE (hdN s) (hdT s)) := rfl
  generalize hdN s = n at *
  generalize hdT s = es at *
  generalize hdE s = E at *
  generalize splitL 32 s = ws at *
  have hw0 : 0 < ws.length := List.length_pos_iff.2 hwn
  have HWp : Hid (∀ x ∈ ws, x.length ≤ 1000000) := fun x hx => by have := hwp x hx; omega
  have HWl : Hid (ws.length ≤ 90001) := by show _ ≤ _; omega
  have HLV := Lib.hid hlv
  clear hlv hwp hwn hsl hs
  go_enter Tryz.func34, Tryz.ntmps34
  go_wp2_with fail
  refine HSp.out.mono ?_
  rintro e w1 ⟨v1, rfl, hr1, hb1⟩
  obtain ⟨A1, c1, rfl, hlc1, hcl1⟩ := hr1.open_
  obtain ⟨ad1, rfl, had1, hc01⟩ := hcl1 0 hw0
  rw [add_zero'] at hc01
  have HR1 := Lib.hid hr1
  have HB1 := Lib.hid hb1
  have hZ : (ByteArray.mk (ws.getD 0 []).toArray).toList = ws.getD 0 [] := ByteArray.toList_mk _
  rw [show strV (ws.getD 0 []) = .string ⟨(ws.getD 0 []).toArray⟩ from rfl] at hc01
  generalize (⟨(ws.getD 0 []).toArray⟩ : ByteArray) = Z at *
  have HZ := Lib.hid hZ
  clear hr1 hb1 hcl1 HSp hZ
  by_cases hw : ws.getD 0 [] ≠ [103, 114, 97, 112, 104]
  · have hR : Hid (E = 4) := by show _ = _; rw [HE0.out, if_pos (.inl hw)]
    have t1 : (Z.toList == [103, 114, 97, 112, 104]) = false := by rw [HZ.out]; simpa using hw
    clear HN0 HT0 HE0 hw
    go_wp2
    go_ret2
    exact ⟨.pointer none, by rw [hR.out]; rfl, fun h => absurd (hR.out.symm.trans h) (by decide), HB1.out⟩
  have t1 : (Z.toList == [103, 114, 97, 112, 104]) = true := by rw [HZ.out]; simpa using hw
  by_cases hm : ws.length % 3 ≠ 2
  · have hR : Hid (E = 4) := by show _ = _; rw [HE0.out, if_pos (.inr hm)]
    have t2 : (((ws.length : Int) % 3) != 2) = true := by simp; omega
    clear HN0 HT0 HE0 hw hm
    go_wp2
    go_ret2
    exact ⟨.pointer none, by rw [hR.out]; rfl, fun h => absurd (hR.out.symm.trans h) (by decide), HB1.out⟩
  have HE1 : Hid (E = if numsE (ws.drop 1) ≠ 0 then numsE (ws.drop 1) else ofE n es) := by show _ = _; rw [HE0.out, if_neg (by rintro (h | h); exact hw h; exact hm h)]
  have t2 : (((ws.length : Int) % 3) != 2) = false := by simp; omega
  have hc1 : c1 ≠ 1 := by omega
  have hs1 := RS.sub (i := 1) (j := ws.length) HR1.out (by omega) (by omega)
  rw [List.take_of_length_le (Nat.le_refl _), if_neg hc1, show ad1.add 1 = ⟨ad1.block, ad1.off + 1, none⟩ by simp [Addr.add]] at hs1
  have HNu := Lib.hid (kNums_any _ (ws.drop 1) w1 hs1 (HLV.out.below HB1.out) (by have := HWl.out; rw [List.length_drop]; omega) fun x hx => HWp.out x (List.mem_of_mem_drop hx))
  have hw2 : 2 ≤ ws.length := by omega
  have HLn : Hid ((numsV (ws.drop 1)).length = ws.length - 1) := by show _ = _; rw [numsV_len, List.length_drop]
  have HM3 : Hid (ws.length % 3 = 2) := by show _ = _; omega
  clear HE0 hw hm hs1
  generalize numsE (ws.drop 1) = ne at *
  generalize numsV (ws.drop 1) = l at *
  have f1 : 2 ≤ c1 := by omega
  go_wp2_with fail
  refine HNu.out.mono ?_
  rintro e w2 ⟨vl, rfl, hl2, hb2⟩
  have HB2 := Lib.hid (HB1.out.trans (hb2.mono HB1.out.size))
  by_cases hne : ne ≠ 0
  · have hR : Hid (E = ne) := by show _ = _; rw [HE1.out, if_pos hne]
    have t3 : (ne != 0) = true := by simpa using hne
    have hEne : Hid (E ≠ 0) := by show _ ≠ _; rw [hR.out]; exact hne
    clear HN0 HT0 HE1 HNu hl2 hb2 hne
    go_wp2
    go_ret2
    exact ⟨.pointer none, by rw [hR.out]; rfl, fun h => absurd h hEne.out, HB2.out⟩
  have h00 : ne = 0 := by omega
  subst h00
  have HE2 : Hid (E = ofE n es) := by show _ = _; rw [HE1.out, if_neg hne]
  have HLs := Lib.hid (hl2 rfl)
  obtain ⟨k, hk⟩ : ∃ k, ws.length = 3 * k + 2 := ⟨ws.length / 3, by have := HM3.out; omega⟩
  clear hl2 hb2 hne HE1 HNu HR1 HWp hc01 HZ
  have hlen : l.length = 3 * k + 1 := by have := HLn.out; omega
  obtain ⟨Al, cl, rfl, hlcl, -, hcell⟩ := HLs.out.open_
  obtain ⟨al, z0, rfl, hal, hz0, hcl0⟩ := hcell 0 (by omega)
  rw [add_zero'] at hcl0
  have hz : z0 = n := by
    have h := hz0.out
    rw [HN0.out, List.getD_eq_getElem?_getD, h]; rfl
  subst hz
  have HCe := Lib.hid hcell
  rw [hlen] at hlcl HLs ⊢
  have HLen := Lib.hid hlen
  have hal0 : (0 : Int) < ((3 * k + 1 : Nat) : Int) := by omega
  have hpos : 0 < 3 * k + 1 := by omega
  have hkl : k < 100000 := by have := HWl.out; omega
  clear HN0 HLn hlen hcell hz0 had1 hlc1 hc1 t1 t2 hw2 f1 hw0 hk
  obtain ⟨len, hle⟩ : ∃ len, len = 3 * k + 1 := ⟨_, rfl⟩
  rw [← hle] at hlcl HLs hal0 hpos ⊢
  obtain ⟨W3, hW3⟩ : ∃ W3, W3 = w2.alloc (.cells #[.int .i64 z0, .slice none 0 0] 24) := ⟨_, rfl⟩
  have hb3 : Below w2.heap.size w2 W3 := by rw [hW3]; exact below_alloc w2 _
  have hx3 : BL W3 w2.heap.size 24 [.int .i64 z0, .slice none 0 0] := by rw [hW3]; exact BL.new' w2 _ _
  have HX3 := Lib.hid hx3
  have hz3 : W3.heap.size = w2.heap.size + 1 := by rw [hW3]; simp
  have HB3 := Lib.hid hb3
  have HW3 := Lib.hid hW3
  have HZ3 := Lib.hid hz3
  have HLe := Lib.hid hle
  clear hW3 hb3 hx3 hz3 hle
  obtain ⟨i1, hi1, hz01, hz11, hz21⟩ := info_parts' edge_info
  go_upto_region 8 with fail
  rw [← HW3.out]
  go_wp2_with fail
  go_loopw [8] (fun i wr => ∃ (j : Nat) (vo : Value), j ≤ k ∧ i = .int .i64 ((3 * j + 1 : Nat) : Int) ∧ Hid (BL wr w2.heap.size 24 [.int .i64 z0, vo]) ∧ Hid (OE wr (w2.heap.size + 1) vo (triL ((l.drop 1).take (3 * j)))) ∧ Hid (Below w2.heap.size w2 wr)) (fun i _ => len - (intOf i).toNat)
  case atStart => exact ⟨0, _, Nat.zero_le _, rfl, HX3.out, OE.nil_ _ _, HB3.out⟩
  case round =>
    obtain ⟨j, vo, hj, rfl, hx, ho, hb⟩ := hrel
    by_cases hlt : j < k
    · have hx' : 3 * j + 3 < l.length := by have := HLen.out; omega
      obtain ⟨_, a, e0, -, ha, d1⟩ := HCe.out (3 * j + 1) (by omega)
      cases e0
      obtain ⟨_, b, e0, -, hbb, d2⟩ := HCe.out (3 * j + 1 + 1) (by omega)
      cases e0
      obtain ⟨_, c, e0, -, hc, d3⟩ := HCe.out (3 * j + 1 + 2) (by omega)
      cases e0
      have HTr : Hid (triL ((l.drop 1).take (3 * (j + 1))) = triL ((l.drop 1).take (3 * j)) ++ [(a, b, c)]) := by
        refine triL_snoc (l.drop 1) j a b c ?_
        rw [List.drop_drop, List.drop_drop]
        rw [show 1 + 3 * j = 3 * j + 1 by omega, show 1 + 3 * (j + 1) = 3 * j + 1 + 1 + 1 + 1 by omega, drop_at ha, drop_at hbb, drop_at hc]
      have hll : (triL ((l.drop 1).take (3 * j))).length = j := triL_len _ j (by rw [List.length_take, List.length_drop]; omega)
      obtain ⟨A1, c1', rfl⟩ := ho.out.shape
      generalize triL ((l.drop 1).take (3 * j)) = ts at *
      rw [hll] at hx ho
      have hjl : j < 100000 := by omega
      have hle := HLe.out
      have hod := OE.below (w' := wr.drew) ho.out (Below.refl _ _).drew
      have hbs := hb.out.size
      have hxl := hx.out.lt
      obtain ⟨g2, cap2, w', hrun, hown, hgr, hat⟩ := run_append_tri (P := Tryz.prog) wr.drew 22 22 i1 _ 24 Tryz.underlying22 hi1 hz01 hz11 hz21 (by omega) rfl (w2.heap.size + 1) _ _ hod a b c (by omega) hxl
      have HX3 : Hid (BL w' w2.heap.size 24 [.int .i64 z0, .slice A1 j c1']) := BL.grown (w := wr.drew.alloc (.cells #[.int .i64 a, .int .i64 b, .int .i64 c] 52)) (BL.alloc (BL.drew hx.out) _) hgr (fun e => by have := (hod.block_ e).choose_spec.2.1; omega)
      have HB4 : Hid (Below w2.heap.size w2 w') := by
        have h1 : Below w2.heap.size w2 wr.drew := hb.out.drew
        exact (h1.alloc hbs _).grown hgr (by simp; omega) (fun k hk => by have := (hod.block_ hk).choose_spec.2.1; omega)
      have y1 := hx.out.cell 1
      have hba : Below wr.heap.size wr (wr.alloc (.cells #[.int .i64 a, .int .i64 b, .int .i64 c] 52)).drew := (below_alloc wr _).drew
      have habr : al.block < wr.heap.size := by omega
      have r4 := (hx.out.bel hba).cell 1
      have HXn := HX3.out.set 1 (.slice (some ⟨g2, 0, none⟩) (j + 1) cap2)
      have HBn := HB4.out.setCell (p := ⟨w2.heap.size, 1, none⟩) (Nat.le_refl _) (.slice (some ⟨g2, 0, none⟩) (j + 1) cap2)
      rw [hll] at hrun hown
      have HOn := hown.set HX3.out (by decide) 1 (.slice (some ⟨g2, 0, none⟩) (j + 1) cap2)
      rw [← HTr.out] at HOn
      have s4 := HX3.out.cell 1
      have s5 := HX3.out.frozen 1
      have HXN := Lib.hid HXn
      have HBN := Lib.hid HBn
      have HON := Lib.hid HOn
      have hrunB := hrun
      change (Builtin.append_ #[22, 22] 22 #[_, .slice (some ⟨wr.heap.size, 0, none⟩) 1 1]).run Tryz.prog (wr.drew.alloc (.cells #[.int .i64 a, .int .i64 b, .int .i64 c] 52)) = _ at hrunB
      change (Builtin.append_ #[22, 22] 22 _).run Tryz.prog (wr.alloc (.cells #[.int .i64 a, .int .i64 b, .int .i64 c] 52)).drew = _ at hrun
      change (Builtin.append_ #[22, 22] 22 #[_, .slice (some ⟨wr.heap.size, 0, none⟩) 1 1]).run Tryz.prog _ = _ at hrun
      obtain ⟨x, hxe⟩ : ∃ x, x = 3 * j + 1 := ⟨_, rfl⟩
      have hxl1 : x < len := by have := HLen.out; omega
      have hxl2 : x + 1 < len := by have := HLen.out; omega
      have hxl3 : x + 2 < len := by have := HLen.out; omega
      rw [← hxe] at d1 d2 d3 ⊢
      have HXE := Lib.hid hxe
      have hxs : x < 9223372036854775000 := by omega
      have w1e : IntKind.i64.wrap ((x : Int) + 1) = (x : Int) + 1 := by simp (disch := omega) only [IntWalk.i64_in]
      have w2e : IntKind.i64.wrap ((x : Int) + 2) = (x : Int) + 2 := by simp (disch := omega) only [IntWalk.i64_in]
      have w3e : (0 : Int) ≤ (x : Int) + 1 ∧ (x : Int) + 1 < (len : Int) := by omega
      have w4e : (0 : Int) ≤ (x : Int) + 2 ∧ (x : Int) + 2 < (len : Int) := by omega
      have w5e : ((x : Int) + 1).toNat = x + 1 := by omega
      have w6e : ((x : Int) + 2).toNat = x + 2 := by omega
      rw [show al.add (x + 1) = ⟨al.block, al.off + (x + 1), none⟩ by simp [Addr.add]] at d2
      rw [show al.add (x + 2) = ⟨al.block, al.off + (x + 2), none⟩ by simp [Addr.add]] at d3
      have HKK : Hid (∀ W : World, Below w2.heap.size w2 W → (fun W : World => W.cell? (al.add x) = some (.int .i64 a) ∧ W.cell? ⟨al.block, al.off + (x + 1), none⟩ = some (.int .i64 b) ∧ W.cell? ⟨al.block, al.off + (x + 2), none⟩ = some (.int .i64 c)) W) := fun W hW =>
        ⟨(hW.cell (by rw [block_of_add]; exact hal)).trans d1, (hW.cell (p := ⟨al.block, al.off + (x + 1), none⟩) hal).trans d2, (hW.cell (p := ⟨al.block, al.off + (x + 2), none⟩) hal).trans d3⟩
      have HS0 := Lib.hid (HKK.out wr.drew hb.out.drew)
      have HS1 := Lib.hid (HKK.out _ (hb.out.trans (hba.mono hb.out.size)))
      have HS2 := Lib.hid (HKK.out _ HB4.out)
      have HS3 := Lib.hid (HKK.out _ HBN.out)
      clear hod hbs hgr hat hown hxl hba HXn HBn HOn HX3 HB4 hx ho hb hll HTr ha hbb hc d1 d2 d3 hle hxe hx'
      go_wp2_with fail
      refine wp_region_noPanic ?_
      refine wp_region_held_drew (S := (fun W : World => W.cell? (al.add x) = some (.int .i64 a) ∧ W.cell? ⟨al.block, al.off + (x + 1), none⟩ = some (.int .i64 b) ∧ W.cell? ⟨al.block, al.off + (x + 2), none⟩ = some (.int .i64 c))) (by kernel_rfl) HS0.out (fun hHeld => ?_)
      refine tkY (v := ?_) 0 (some 40) rfl (.inl ⟨by rfl, ?_⟩) ?_
      rotate_left
      · (intro w hSw; (try dsimp only at hSw); go_simp; try with_reducible rfl)
      try simp only [Act.put, tk1, tk2, tk3]
      refine tkY (v := ?_) 2 (some 42) rfl (.inl ⟨by rfl, ?_⟩) ?_
      rotate_left
      · (intro w hSw; (try dsimp only at hSw); go_simp; try with_reducible rfl)
      try simp only [Act.put, tk1, tk2, tk3]
      refine tkY (v := ?_) 3 (some 43) rfl (.inl ⟨by rfl, ?_⟩) ?_
      rotate_left
      · (intro w hSw; (try dsimp only at hSw); go_simp; try with_reducible rfl)
      try simp only [Act.put, tk1, tk2, tk3]
      refine tkY (v := ?_) 4 (some 44) rfl (.inl ⟨by rfl, ?_⟩) ?_
      rotate_left
      · (intro w hSw; (try dsimp only at hSw); go_simp; try with_reducible rfl)
      try simp only [Act.put, tk1, tk2, tk3]
      refine tkY (v := ?_) 5 (some 45) rfl (.inl ⟨by rfl, ?_⟩) ?_
      rotate_left
      · (intro w hSw; (try dsimp only at hSw); go_simp; try with_reducible rfl)
      try simp only [Act.put, tk1, tk2, tk3]
      refine tkY (v := ?_) 6 (some 46) rfl (.inl ⟨by rfl, ?_⟩) ?_
      rotate_left
      · (intro w hSw; (try dsimp only at hSw); go_simp; try with_reducible rfl)
      try simp only [Act.put, tk1, tk2, tk3]
      refine tkY (v := ?_) 7 (some 47) rfl (.inl ⟨by rfl, ?_⟩) ?_
      rotate_left
      · (intro w hSw; (try dsimp only at hSw); go_simp; try with_reducible rfl)
      try simp only [Act.put, tk1, tk2, tk3]
      refine tkY (v := ?_) 8 (some 48) rfl (.inl ⟨by rfl, ?_⟩) ?_
      rotate_left
      · (intro w hSw; (try dsimp only at hSw); go_simp; try with_reducible rfl)
      try simp only [Act.put, tk1, tk2, tk3]
      refine tkY (v := ?_) 9 (some 49) rfl (.inl ⟨by rfl, ?_⟩) ?_
      rotate_left
      · (intro w hSw; (try dsimp only at hSw); go_simp; try with_reducible rfl)
      try simp only [Act.put, tk1, tk2, tk3]
      refine tkY (v := ?_) 10 (some 50) rfl (.inl ⟨by rfl, ?_⟩) ?_
      rotate_left
      · (intro w hSw; (try dsimp only at hSw); go_simp; try with_reducible rfl)
      try simp only [Act.put, tk1, tk2, tk3]
      refine tkY (v := ?_) 11 (some 51) rfl (.inl ⟨by rfl, ?_⟩) ?_
      rotate_left
      · (intro w hSw; (try dsimp only at hSw); go_simp; try with_reducible rfl)
      try simp only [Act.put, tk1, tk2, tk3]
      refine tkY (v := ?_) 12 (some 52) rfl (.inl ⟨by rfl, ?_⟩) ?_
      rotate_left
      · (intro w hSw; (try dsimp only at hSw); go_simp; try with_reducible rfl)
      try simp only [Act.put, tk1, tk2, tk3]
      refine tkY (v := ?_) 13 (some 53) rfl (.inl ⟨by rfl, ?_⟩) ?_
      rotate_left
      · (intro w hSw; (try dsimp only at hSw); go_simp; try with_reducible rfl)
      try simp only [Act.put, tk1, tk2, tk3]
      refine tkY (v := ?_) 14 (some 54) rfl (.inl ⟨by rfl, ?_⟩) ?_
      rotate_left
      · (intro w hSw; (try dsimp only at hSw); go_simp; try with_reducible rfl)
      try simp only [Act.put, tk1, tk2, tk3]
      refine tkY (v := ?_) 15 (some 55) rfl (.inl ⟨by rfl, ?_⟩) ?_
      rotate_left
      · (intro w hSw; (try dsimp only at hSw); go_simp; try with_reducible rfl)
      try simp only [Act.put, tk1, tk2, tk3]
      refine tkY (v := ?_) 16 (some 56) rfl (.inl ⟨by rfl, ?_⟩) ?_
      rotate_left
      · (intro w hSw; (try dsimp only at hSw); go_simp; try with_reducible rfl)
      try simp only [Act.put, tk1, tk2, tk3]
      refine wpAnyH_ready (rs := [1, 17]) (by kernel_rfl) (by simp) ?_
      refine AllReadyH.cons (o := { dst := some 41, op := _, type := _, pos := _, after := _, guard := _ }) rfl (fun K hK => ?_) (AllReadyH.cons (o := { dst := some 57, op := _, type := _, pos := _, after := _, guard := _ }) rfl (fun K hK => ?_) AllReadyH.nil)
      · go_simp
        clear hHeld
        refine hK.out _ _ (by first | exact HS0.out | exact HS1.out | exact HS2.out | exact HS3.out) (fun hHeld => ?_)
        clear hK K
        try simp only [Act.put, tk1, tk2, tk3]
        refine wpAnyH_ready (rs := [17]) (by kernel_rfl) (by simp) ?_
        refine AllReadyH.cons (o := { dst := some 57, op := _, type := _, pos := _, after := _, guard := _ }) rfl (fun K hK => ?_) AllReadyH.nil
        go_simp
        clear hHeld
        refine hK.out _ _ (by first | exact HS0.out | exact HS1.out | exact HS2.out | exact HS3.out) (fun hHeld => ?_)
        clear hK K
        try simp only [Act.put, tk1, tk2, tk3]
        refine wpAnyH_ready (rs := [18]) (by kernel_rfl) (by simp) ?_
        refine AllReadyH.cons (o := { dst := some 58, op := _, type := _, pos := _, after := _, guard := _ }) rfl (fun K hK => ?_) AllReadyH.nil
        (refine step_append' rfl (.tmp 41) (.tmp 57) 22 rfl (.slice A1 j c1') (.slice (some ⟨wr.heap.size, 0, none⟩) 1 1) (by simp [Act.eval]) (by simp [Act.eval]) _ _ (by first | exact hrun | exact hrunB) ?_)
        clear hHeld
        refine hK.out _ _ (by first | exact HS0.out | exact HS1.out | exact HS2.out | exact HS3.out) (fun hHeld => ?_)
        clear hK K
        try simp only [Act.put, tk1, tk2, tk3]
        refine tkY (v := ?_) 19 (some 59) rfl (.inl ⟨by rfl, ?_⟩) ?_
        rotate_left
        · (intro w hSw; (try dsimp only at hSw); go_simp; try with_reducible rfl)
        try simp only [Act.put, tk1, tk2, tk3]
        refine wpAnyH_ready (rs := [20]) (by kernel_rfl) (by simp) ?_
        refine AllReadyH.cons (o := { dst := none, op := _, type := _, pos := _, after := _, guard := _ }) rfl (fun K hK => ?_) AllReadyH.nil
        go_simp
        clear hHeld
        refine hK.out _ _ (by first | exact HS0.out | exact HS1.out | exact HS2.out | exact HS3.out) (fun hHeld => ?_)
        clear hK K
        try simp only [Act.put, tk1, tk2, tk3]
        refine wpAnyH_done (by kernel_rfl) ?_ _
        refine NoPanic.normal ?_
        go_wp2
        go_roundw
        case rel => exact ⟨j + 1, _, by omega, by rw [show ((3 * (j + 1) + 1 : Nat) : Int) = (x : Int) + 3 by have := HXE.out; omega], HXN.out, HON.out, HBN.out⟩
        case measure => simp [intOf]; omega
      · go_simp
        clear hHeld
        refine hK.out _ _ (by first | exact HS0.out | exact HS1.out | exact HS2.out | exact HS3.out) (fun hHeld => ?_)
        clear hK K
        try simp only [Act.put, tk1, tk2, tk3]
        refine wpAnyH_ready (rs := [1]) (by kernel_rfl) (by simp) ?_
        refine AllReadyH.cons (o := { dst := some 41, op := _, type := _, pos := _, after := _, guard := _ }) rfl (fun K hK => ?_) AllReadyH.nil
        go_simp
        clear hHeld
        refine hK.out _ _ (by first | exact HS0.out | exact HS1.out | exact HS2.out | exact HS3.out) (fun hHeld => ?_)
        clear hK K
        try simp only [Act.put, tk1, tk2, tk3]
        refine wpAnyH_ready (rs := [18]) (by kernel_rfl) (by simp) ?_
        refine AllReadyH.cons (o := { dst := some 58, op := _, type := _, pos := _, after := _, guard := _ }) rfl (fun K hK => ?_) AllReadyH.nil
        (refine step_append' rfl (.tmp 41) (.tmp 57) 22 rfl (.slice A1 j c1') (.slice (some ⟨wr.heap.size, 0, none⟩) 1 1) (by simp [Act.eval]) (by simp [Act.eval]) _ _ (by first | exact hrun | exact hrunB) ?_)
        clear hHeld
        refine hK.out _ _ (by first | exact HS0.out | exact HS1.out | exact HS2.out | exact HS3.out) (fun hHeld => ?_)
        clear hK K
        try simp only [Act.put, tk1, tk2, tk3]
        refine tkY (v := ?_) 19 (some 59) rfl (.inl ⟨by rfl, ?_⟩) ?_
        rotate_left
        · (intro w hSw; (try dsimp only at hSw); go_simp; try with_reducible rfl)
        try simp only [Act.put, tk1, tk2, tk3]
        refine wpAnyH_ready (rs := [20]) (by kernel_rfl) (by simp) ?_
        refine AllReadyH.cons (o := { dst := none, op := _, type := _, pos := _, after := _, guard := _ }) rfl (fun K hK => ?_) AllReadyH.nil
        go_simp
        clear hHeld
        refine hK.out _ _ (by first | exact HS0.out | exact HS1.out | exact HS2.out | exact HS3.out) (fun hHeld => ?_)
        clear hK K
        try simp only [Act.put, tk1, tk2, tk3]
        refine wpAnyH_done (by kernel_rfl) ?_ _
        refine NoPanic.normal ?_
        go_wp2
        go_roundw
        case rel => exact ⟨j + 1, _, by omega, by rw [show ((3 * (j + 1) + 1 : Nat) : Int) = (x : Int) + 3 by have := HXE.out; omega], HXN.out, HON.out, HBN.out⟩
        case measure => simp [intOf]; omega
    · obtain rfl : j = k := by omega
      have HGv : Hid (GV wr (.agg #[.int .i64 z0, vo]) z0 es) := by
        refine ⟨vo, rfl, ?_⟩
        have h := ho.out.ev
        rwa [List.take_of_length_le (by have := HLen.out; rw [List.length_drop]; omega), ← HT0.out] at h
      have HOf := Lib.hid (kOf_any _ z0 es wr HGv.out)
      have hxe := HLe.out
      have y0 := hx.out.cell 0
      have y1 := hx.out.cell 1
      have hnl : ¬ ((3 * j + 1 : Nat) : Int) < (len : Int) := by omega
      have HBr := Lib.hid (HB2.out.trans (hb.out.mono HB2.out.size))
      go_wp2_with fail
      refine HOf.out.mono ?_
      rintro e w9 ⟨v9, rfl, hg9, hb9⟩
      have HB9 := Lib.hid (HBr.out.trans (hb9.mono HBr.out.size))
      have HG9 := Lib.hid hg9
      clear hg9 hb9
      go_wp2
      go_ret2
      exact ⟨v9, by rw [HE2.out]; rfl, fun h => HG9.out (HE2.out.symm.trans h), HB9.out⟩
end Go.Proofs.YtgcnijmmjlfabaaGreatDoor

