/- The text of an int: its digits, and what reading them gives (plain).
   Contract of trimmed: words without zeros at the end (at most two words).
   make of words; contract of less.
   Contracts of less and plus, numbers of at most one word.
   Contract of plus, numbers of at most one word.
   Contracts of compare and times, numbers of at most one word.
   Contracts of short, divided and signed, numbers of at most one word.
   Contract of signed. -/
import Derived.Test.YtjfggodnfoknfaaGreatDoorM01
import Derived.Handy
import Derived.Lib.ItoaLen
import Derived.Lib.ParseIntBMem
set_option maxRecDepth 100000
set_option maxHeartbeats 16000000
namespace Go.Proofs.YtjfggodnfoknfaaGreatDoor

theorem dgc_nat {d : Nat} (h : d < 10) : (UInt8.ofNat (48 + d)).toNat = 48 + d := by
  show (48 + d) % 256 = 48 + d
  omega
theorem dec_digits (u : Nat) : ∀ c ∈ Go.Lib.decDigits u, 48 ≤ c.toNat ∧ c.toNat ≤ 57 := by
  induction u using Nat.strongRecOn with
  | ind u ih =>
    rw [Go.Lib.decDigits]
    split
    · intro c hc
      rw [List.mem_singleton.1 hc, dgc_nat (by omega)]; omega
    · intro c hc
      rcases List.mem_append.1 hc with h | h
      · exact ih (u / 10) (by omega) c h
      · rw [List.mem_singleton.1 h, dgc_nat (by omega)]; omega
theorem dec_ne (u : Nat) : Go.Lib.decDigits u ≠ [] := by
  rw [Go.Lib.decDigits]
  split <;> simp
theorem dec_head (u : Nat) (h : 1 ≤ u) : (Go.Lib.decDigits u).getD 0 0 ≠ 48 := by
  induction u using Nat.strongRecOn with
  | ind u ih =>
    rw [Go.Lib.decDigits]
    split
    · intro e
      have := congrArg UInt8.toNat e
      simp only [List.getD_cons_zero] at this
      rw [dgc_nat (by omega), show (48 : UInt8).toNat = 48 from rfl] at this
      omega
    · have := ih (u / 10) (by omega) (by omega)
      cases hd : Go.Lib.decDigits (u / 10) with
      | nil => exact absurd hd (dec_ne _)
      | cons a r => rw [hd] at this; exact this
theorem dec_zero : Go.Lib.decDigits 0 = [48] := by rw [Go.Lib.decDigits, dif_pos (by omega)]; rfl
theorem dec_len (u : Nat) (h : u < 1000000000) : (Go.Lib.decDigits u).length ≤ 9 := by
  rw [Go.Lib.decDigits_length]
  have := Go.Lib.nDigits_pos u
  apply Classical.byContradiction
  intro hn
  -- ten digits need ten thousand times more
  have hlo : ∀ k v : Nat, k + 1 ≤ Go.Lib.nDigits v → 1 ≤ k → 10 ^ k ≤ v := by
    intro k
    induction k with
    | zero => intro v _ h0; omega
    | succ k ih =>
      intro v hv _
      by_cases hs : v < 10
      · rw [Go.Lib.nDigits_small hs] at hv; omega
      · rw [Go.Lib.nDigits_big hs] at hv
        by_cases hk : k = 0
        · subst hk; simp; omega
        · have := ih (v / 10) (by omega) (by omega)
          rw [Nat.pow_succ]
          have h2 := Nat.div_mul_le_self v 10
          have h3 := Nat.mul_le_mul_right 10 this
          omega
  have := hlo 9 u (by omega) (by omega)
  rw [show 10 ^ 9 = 1000000000 from rfl] at this
  omega
theorem parse_decN (M : Nat) (hM : M < 1844674407370955162) (u : Nat) : ∀ r : List UInt8, u ≤ M → Go.Lib.parseUintM M 0 (Go.Lib.decDigits u ++ r) = Go.Lib.parseUintM M u r := by
  induction u using Nat.strongRecOn with
  | ind u ih =>
    intro r hu
    have step : ∀ acc d : Nat, d < 10 → acc * 10 + d ≤ M → Go.Lib.parseUintM M acc (UInt8.ofNat (48 + d) :: r) = Go.Lib.parseUintM M (acc * 10 + d) r := fun acc d hd ha => by
      rw [Go.Lib.parseUintM, dgc_nat hd, if_pos (by omega), if_neg (by omega), if_neg (by omega)]
      congr 1
      omega
    rw [Go.Lib.decDigits]
    split
    · have := step 0 u (by omega) (by omega)
      rw [Nat.zero_mul, Nat.zero_add] at this
      exact this
    · rw [List.append_assoc, ih (u / 10) (by omega) _ (by omega)]
      have := step (u / 10) (u % 10) (by omega) (by omega)
      rw [show u / 10 * 10 + u % 10 = u by omega] at this
      exact this
theorem parse32 {u : Nat} (h : u < 1000000000) : Go.Lib.parseUintB 32 (Go.Lib.decDigits u) = .ok u := by
  unfold Go.Lib.parseUintB
  rw [if_neg (dec_ne u)]
  have := parse_decN (2 ^ 32 - 1) (by decide) u [] (by omega)
  rw [List.append_nil] at this
  rw [this, Go.Lib.parseUintM]
/-- The text of an int. -/
def zV (z : Int) : Value := .string ⟨(Go.Lib.itoa z).toArray⟩
theorem itoa_nat (u : Nat) : Go.Lib.itoa (u : Int) = Go.Lib.decDigits u := Go.Lib.itoa_nonneg u
theorem itoa_parts (z : Int) : Go.Lib.itoa z = if z < 0 then 45 :: Go.Lib.decDigits z.natAbs else Go.Lib.decDigits z.natAbs := by
  unfold Go.Lib.itoa
  split
  · rfl
  · rw [show z.toNat = z.natAbs by omega]
theorem dec_ne45 (u : Nat) : (Go.Lib.decDigits u).getD 0 0 ≠ 45 := by
  cases hd : Go.Lib.decDigits u with
  | nil => exact absurd hd (dec_ne u)
  | cons a r =>
    have := dec_digits u a (by rw [hd]; simp)
    intro e
    simp only [List.getD_cons_zero] at e
    rw [e, show (45 : UInt8).toNat = 45 from rfl] at this
    omega
theorem dec_inj {u v : Nat} (hu : u < 1000000000) (hv : v < 1000000000) (h : Go.Lib.decDigits u = Go.Lib.decDigits v) : u = v := by
  have h1 := parse32 hu
  rw [h, parse32 hv] at h1
  cases h1; rfl
theorem itoa_inj {a b : Int} (ha : a.natAbs < 1000000000) (hb : b.natAbs < 1000000000) (h : Go.Lib.itoa a = Go.Lib.itoa b) : a = b := by
  rw [itoa_parts, itoa_parts] at h
  by_cases c1 : a < 0 <;> by_cases c2 : b < 0
  · rw [if_pos c1, if_pos c2] at h
    have := dec_inj ha hb (List.cons.inj h).2
    omega
  · rw [if_pos c1, if_neg c2] at h
    exact absurd (by rw [← h]; rfl) (dec_ne45 b.natAbs)
  · rw [if_neg c1, if_pos c2] at h
    exact absurd (by rw [h]; rfl) (dec_ne45 a.natAbs)
  · rw [if_neg c1, if_neg c2] at h
    have := dec_inj ha hb h
    omega
end Go.Proofs.YtjfggodnfoknfaaGreatDoor

namespace Go.Proofs.YtjfggodnfoknfaaGreatDoor
open Go.RowKit

/-- A word as a value. -/
def uV (a : Nat) : Value := .int .u32 (a : Int)
/-- Words without zeros at the end. -/
def trimL : List Nat → List Nat
  | [] => []
  | a :: l => if a = 0 ∧ trimL l = [] then [] else a :: trimL l
/-- Reads as words. -/
def WV (w : World) (v : Value) (l : List Nat) : Prop := RV w v (l.map uV)
theorem addr_add_zero (a : Addr) : a.add 0 = a := by unfold Addr.add; simp
theorem trim0_any (p : Option Addr) (c : Nat) (w : World) :
    Calls Tryz.prog 137 #[.slice p 0 c] w fun e w' => e = .returned (.slice p 0 c) ∧ w' = w := by
  go_enter Tryz.func137, Tryz.ntmps137
  go_wp2
  go_rounds 1
  go_ret
  exact ⟨rfl, rfl⟩
theorem trim1_any (ad : Addr) (c a : Nat) (w : World) (h : w.cell? ad = some (.int .u32 (a : Int))) (hc : 1 ≤ c) :
    Calls Tryz.prog 137 #[.slice (some ad) 1 c] w fun e w' => e = .returned (.slice (some ad) (if a = 0 then 0 else 1) c) ∧ w' = w := by
  by_cases ha : a = 0
  · subst ha
    go_enter Tryz.func137, Tryz.ntmps137
    go_wp2
    go_rounds 2
    go_ret
    exact ⟨rfl, rfl⟩
  · rw [if_neg ha]
    have hn : ((a : Int) == 0) = false := by simp; omega
    clear ha
    go_enter Tryz.func137, Tryz.ntmps137
    go_wp2
    go_rounds 1
    go_ret
    exact ⟨rfl, rfl⟩
theorem trim2_any (ad : Addr) (c a b : Nat) (w : World) (h0 : w.cell? ad = some (.int .u32 (a : Int))) (h1 : w.cell? ⟨ad.block, ad.off + 1, none⟩ = some (.int .u32 (b : Int))) (hc : 2 ≤ c) :
    Calls Tryz.prog 137 #[.slice (some ad) 2 c] w fun e w' => e = .returned (.slice (some ad) (trimL [a, b]).length c) ∧ w' = w := by
  by_cases hb : b = 0
  · subst hb
    by_cases ha : a = 0
    · subst ha
      go_enter Tryz.func137, Tryz.ntmps137
      go_wp2
      go_rounds 3
      go_ret
      exact ⟨rfl, rfl⟩
    · rw [show (trimL [a, 0]).length = 1 by simp [trimL, ha]]
      have hn : ((a : Int) == 0) = false := by simp; omega
      clear ha
      go_enter Tryz.func137, Tryz.ntmps137
      go_wp2
      go_rounds 2
      go_ret
      exact ⟨rfl, rfl⟩
  · rw [show (trimL [a, b]).length = 2 by simp [trimL, hb]]
    have hn : ((b : Int) == 0) = false := by simp; omega
    clear hb
    go_enter Tryz.func137, Tryz.ntmps137
    go_wp2
    go_rounds 1
    go_ret
    exact ⟨rfl, rfl⟩
/-- At most two words. -/
theorem trim_any2 (v : Value) (l : List Nat) (w : World) (hv : WV w v l) (hl : l.length ≤ 2) :
    Calls Tryz.prog 137 #[v] w fun e w' => ∃ v', e = .returned v' ∧ WV w v' (trimL l) ∧ w' = w := by
  obtain ⟨A, c, rfl, h2, h3, h4⟩ := hv
  match l, hl with
  | [], _ => exact (trim0_any A c w).mono fun _ _ h => ⟨_, h.1, ⟨A, c, rfl, by simp [trimL], by simp [trimL], fun k hk => by simp [trimL] at hk⟩, h.2⟩
  | [a], _ =>
    obtain ⟨ad, rfl, hb, hc⟩ := h4 0 (by simp)
    simp only [List.map_cons, List.map_nil, List.length_cons, List.length_nil] at h2 h3 hc ⊢
    rw [addr_add_zero] at hc
    refine (trim1_any ad c a w hc h2).mono fun _ _ h => ⟨_, h.1, ⟨some ad, c, ?_, ?_, ?_, ?_⟩, h.2⟩
    · by_cases ha : a = 0 <;> simp [trimL, ha]
    · by_cases ha : a = 0 <;> simp [trimL, ha] <;> omega
    · by_cases ha : a = 0 <;> simp [trimL, ha]
    · intro k hk
      by_cases ha : a = 0
      · simp [trimL, ha] at hk
      · have : k = 0 := by simp [trimL, ha] at hk; omega
        subst this
        exact ⟨ad, rfl, hb, by rw [addr_add_zero, hc]; simp [trimL, ha]⟩
  | [a, b], _ =>
    obtain ⟨ad, rfl, hb, hc⟩ := h4 0 (by simp)
    obtain ⟨ad', he, -, hc1⟩ := h4 1 (by simp)
    cases he
    simp only [List.map_cons, List.map_nil, List.length_cons, List.length_nil] at h2 h3 hc hc1 ⊢
    rw [addr_add_zero] at hc
    refine (trim2_any ad c a b w hc hc1 (by omega)).mono fun _ _ h => ⟨_, h.1, ⟨some ad, c, by simp, ?_, ?_, ?_⟩, h.2⟩
    · by_cases ha : a = 0 <;> by_cases hb : b = 0 <;> simp [trimL, ha, hb] <;> omega
    · by_cases ha : a = 0 <;> by_cases hb : b = 0 <;> simp [trimL, ha, hb]
    · intro k hk
      refine ⟨ad, rfl, hb, ?_⟩
      by_cases hb0 : b = 0
      · by_cases ha : a = 0
        · simp [trimL, ha, hb0] at hk
        · have : k = 0 := by simp [trimL, ha, hb0] at hk; omega
          subst this
          rw [addr_add_zero, hc]; simp [trimL, ha, hb0, uV]
      · have : k = 0 ∨ k = 1 := by simp [trimL, hb0] at hk; omega
        rcases this with rfl | rfl
        · rw [addr_add_zero, hc]; simp [trimL, hb0, uV]
        · rw [hc1]; simp [trimL, hb0, uV]
end Go.Proofs.YtjfggodnfoknfaaGreatDoor

namespace Go.Proofs.YtjfggodnfoknfaaGreatDoor
open Go.RowKit
theorem word_info : (Tryz.prog.info? 115).map (fun i => (i.zero, i.size, i.bytes)) = some (some (.int .u32 0), 1, 4) := by kernel_rfl
theorem wpList_words {ops : Array Oper} {rest : List Oper} {o : Oper} {a : Act} {Q : Exit → Act → World → Prop} (w : World) (hg : o.guard = none) (l c : Operand)
    (hop : o.op = .makeSlice 129 l c) (m n : Nat) (cells : Array Value) (hl : a.eval l = .int .i64 (m : Int)) (hc : a.eval c = .int .i64 (n : Int)) (hmn : m ≤ n) (hn : n ≤ 1000)
    (hcs : (List.replicate n (Value.int .u32 0)).toArray = cells)
    (hK : wpList Tryz.prog ops Q rest (a.put o.dst (.slice (some ⟨w.heap.size, 0, none⟩) m n)) (w.alloc (.cells cells 115))) : wpList Tryz.prog ops Q (o :: rest) a w := by
  refine wpList_plain hg fun K hK' => ?_
  obtain ⟨i, hi, h1⟩ := Option.map_eq_some_iff.1 word_info
  obtain ⟨hz, hs, hb⟩ : i.zero = some (.int .u32 0) ∧ i.size = 1 ∧ i.bytes = 4 := by simpa using h1
  have hrun := run_make (P := Tryz.prog) w 129 115 i (.int .u32 0) (by kernel_rfl) hi hz .i64 .i64 m n (by omega) (by omega) (by rw [hb]; omega) (by omega)
  simp only [Int.toNat_natCast, hs, Nat.mul_one] at hrun
  unfold Oper.wp
  rw [show madeCells (Value.int IntKind.u32 0).cells n = cells by rw [← hcs, ← toList_madeCells_one]; rfl] at hrun
  simp [execOp, hop, hl, hc, hrun, Result.andThen]
  exact hK' _ _ hK
/-- Fresh words, trimmed. -/
theorem trim_fresh1 (g a : Nat) (W : World) (hg : g < W.heap.size) (h : W.cell? ⟨g, 0, none⟩ = some (.int .u32 (a : Int))) :
    Calls Tryz.prog 137 #[.slice (some ⟨g, 0, none⟩) 1 1] W fun e w' => ∃ v', e = .returned v' ∧ WV w' v' (trimL [a]) ∧ w' = W :=
  (trim_any2 _ [a] W ⟨some ⟨g, 0, none⟩, 1, rfl, by simp, by simp, fun k hk => ⟨_, rfl, hg, by
    have : k = 0 := by simpa using hk
    subst this
    rw [addr_add_zero, h]; rfl⟩⟩ (by simp)).mono fun _ _ h => by
      obtain ⟨v, h1, h2, h3⟩ := h
      exact ⟨v, h1, by rw [h3]; exact h2, h3⟩
theorem less11 (xa ya : Addr) (xc yc a b : Nat) (w : World) (hx : w.cell? xa = some (.int .u32 (a : Int))) (hy : w.cell? ya = some (.int .u32 (b : Int))) (hxb : xa.block < w.heap.size) (hyb : ya.block < w.heap.size) (hab : b ≤ a) (ha : a < 1000000000) :
    Calls Tryz.prog 218 #[.slice (some xa) 1 xc, .slice (some ya) 1 yc] w fun e w' => ∃ v, e = .returned v ∧ WV w' v (trimL [a - b]) ∧ Below w.heap.size w w' := by
  have h1 : wrap64 ((a : Int) - (b : Int)) = ((a - b : Nat) : Int) := by rw [IntWalk.wrap64_in] <;> omega
  have h2 : ((a - b : Nat) : Int) % 4294967296 = ((a - b : Nat) : Int) := by omega
  have h3 : wrap64 (a : Int) = (a : Int) := by rw [IntWalk.wrap64_in] <;> omega
  have h5 : wrap64 (b : Int) = (b : Int) := by rw [IntWalk.wrap64_in] <;> omega
  have h4 : ¬ ((a - b : Nat) : Int) < 0 := by omega
  have HT : Hid (∀ W : World, w.heap.size < W.heap.size → W.cell? ⟨w.heap.size, 0, none⟩ = some (.int .u32 ((a - b : Nat) : Int)) → Calls Tryz.prog 137 #[.slice (some ⟨w.heap.size, 0, none⟩) 1 1] W fun e w' => ∃ v', e = .returned v' ∧ WV w' v' (trimL [a - b]) ∧ w' = W) := fun W g h => trim_fresh1 _ _ W g h
  generalize a - b = d at *
  clear hab ha
  go_enter Tryz.func218, Tryz.ntmps218
  go_wp2_with (at_make; refine wpList_words w rfl _ _ rfl 1 1 #[.int .u32 0] rfl rfl (by omega) (by omega) rfl ?_)
  refine wp_loop_rounds 2 ?_
  rw [rounds_succ]
  go_wp2_with fail
  rw [rounds_succ]
  go_wp2_with fail
  refine (HT.out _ (by simp) (by simp)).mono ?_
  rintro e w' ⟨v, rfl, hv, rfl⟩
  go_wp2
  go_ret
  exact ⟨_, rfl, hv, by go_grown⟩
end Go.Proofs.YtjfggodnfoknfaaGreatDoor

namespace Go.Proofs.YtjfggodnfoknfaaGreatDoor
open Go.RowKit
/-- A natural number below 10^9. -/
def NV (w : World) (v : Value) (a : Nat) : Prop := WV w v (trimL [a]) ∧ a < 1000000000
theorem NV.parts {w : World} {v : Value} {a : Nat} (h : NV w v a) : (a = 0 ∧ ∃ p c, v = .slice p 0 c) ∨ (a ≠ 0 ∧ ∃ ad c, v = .slice (some ad) 1 c ∧ 1 ≤ c ∧ ad.block < w.heap.size ∧ w.cell? ad = some (.int .u32 (a : Int))) := by
  obtain ⟨⟨A, c, h1, h2, h3, h4⟩, -⟩ := h
  by_cases ha : a = 0
  · subst ha
    exact .inl ⟨rfl, A, c, h1⟩
  · have hl : ([a].map uV) = (trimL [a]).map uV := by simp [trimL, ha]
    rw [← hl] at h1 h2 h3 h4
    obtain ⟨ad, e, hb, hc⟩ := h4 0 (by simp)
    rw [addr_add_zero] at hc
    exact .inr ⟨ha, ad, c, by rw [h1, e]; rfl, h2, hb, hc⟩
theorem NV.below {w w' : World} {v : Value} {a : Nat} (h : NV w v a) (hb : Below w.heap.size w w') : NV w' v a := ⟨RV.below h.1 hb, h.2⟩
theorem NV.zero (w : World) (p : Option Addr) (c : Nat) : NV w (.slice p 0 c) 0 := ⟨⟨p, c, rfl, by simp [trimL], by simp [trimL], fun k hk => by simp [trimL] at hk⟩, by omega⟩
theorem less10 (xa : Addr) (p : Option Addr) (xc yc a : Nat) (w : World) (hx : w.cell? xa = some (.int .u32 (a : Int))) (hxb : xa.block < w.heap.size) (ha : a < 1000000000) :
    Calls Tryz.prog 218 #[.slice (some xa) 1 xc, .slice p 0 yc] w fun e w' => ∃ v, e = .returned v ∧ WV w' v (trimL [a]) ∧ Below w.heap.size w w' := by
  have h2 : (a : Int) % 4294967296 = (a : Int) := by omega
  have h3 : wrap64 (a : Int) = (a : Int) := by rw [IntWalk.wrap64_in] <;> omega
  have h4 : ¬ (a : Int) < 0 := by omega
  have HT : Hid (∀ W : World, w.heap.size < W.heap.size → W.cell? ⟨w.heap.size, 0, none⟩ = some (.int .u32 (a : Int)) → Calls Tryz.prog 137 #[.slice (some ⟨w.heap.size, 0, none⟩) 1 1] W fun e w' => ∃ v', e = .returned v' ∧ WV w' v' (trimL [a]) ∧ w' = W) := fun W g h => trim_fresh1 _ _ W g h
  clear ha
  go_enter Tryz.func218, Tryz.ntmps218
  go_wp2_with (at_make; refine wpList_words w rfl _ _ rfl 1 1 #[.int .u32 0] rfl rfl (by omega) (by omega) rfl ?_)
  refine wp_loop_rounds 2 ?_
  rw [rounds_succ]
  go_wp2_with fail
  rw [rounds_succ]
  go_wp2_with fail
  refine (HT.out _ (by simp) (by simp)).mono ?_
  rintro e w' ⟨v, rfl, hv, rfl⟩
  go_wp2
  go_ret
  exact ⟨_, rfl, hv, by go_grown⟩
theorem less00 (p q : Option Addr) (xc yc : Nat) (w : World) :
    Calls Tryz.prog 218 #[.slice p 0 xc, .slice q 0 yc] w fun e w' => ∃ v, e = .returned v ∧ WV w' v [] ∧ Below w.heap.size w w' := by
  have HT : Hid (∀ W : World, Calls Tryz.prog 137 #[.slice (some ⟨w.heap.size, 0, none⟩) 0 0] W fun e w' => e = .returned (.slice (some ⟨w.heap.size, 0, none⟩) 0 0) ∧ w' = W) := fun W => trim0_any _ _ W
  go_enter Tryz.func218, Tryz.ntmps218
  go_wp2_with (at_make; refine wpList_words w rfl _ _ rfl 0 0 #[] rfl rfl (by omega) (by omega) rfl ?_)
  refine wp_loop_rounds 1 ?_
  rw [rounds_succ]
  go_wp2_with fail
  refine (HT.out _).mono ?_
  rintro e w' ⟨rfl, rfl⟩
  go_wp2
  go_ret
  exact ⟨_, rfl, (NV.zero _ _ _).1, by go_grown⟩
theorem less_any (vx vy : Value) (a b : Nat) (w : World) (hx : NV w vx a) (hy : NV w vy b) (hab : b ≤ a) :
    Calls Tryz.prog 218 #[vx, vy] w fun e w' => ∃ v, e = .returned v ∧ NV w' v (a - b) ∧ Below w.heap.size w w' := by
  have ha := hx.2
  rcases hx.parts with ⟨rfl, p, c, rfl⟩ | ⟨h0, xa, xc, rfl, -, hxb, hxc⟩
  · rcases hy.parts with ⟨rfl, q, d, rfl⟩ | ⟨h0, -⟩
    · exact (less00 p q c d w).mono fun _ _ h => by
        obtain ⟨v, h1, h2, h3⟩ := h
        exact ⟨v, h1, ⟨h2, by omega⟩, h3⟩
    · omega
  · rcases hy.parts with ⟨rfl, q, d, rfl⟩ | ⟨h0, ya, yc, rfl, -, hyb, hyc⟩
    · exact (less10 xa q xc d a w hxc hxb ha).mono fun _ _ h => by
        obtain ⟨v, h1, h2, h3⟩ := h
        exact ⟨v, h1, ⟨h2, by omega⟩, h3⟩
    · exact (less11 xa ya xc yc a b w hxc hyc hxb hyb hab ha).mono fun _ _ h => by
        obtain ⟨v, h1, h2, h3⟩ := h
        exact ⟨v, h1, ⟨h2, by omega⟩, h3⟩
end Go.Proofs.YtjfggodnfoknfaaGreatDoor

namespace Go.Proofs.YtjfggodnfoknfaaGreatDoor
open Go.RowKit
theorem word_parts : ∃ i, Tryz.prog.info? 115 = some i ∧ i.zero = some (.int .u32 0) ∧ i.size = 1 ∧ i.bytes = 4 := by
  obtain ⟨i, hi, h1⟩ := Option.map_eq_some_iff.1 word_info
  obtain ⟨hz, hs, hb⟩ : i.zero = some (.int .u32 0) ∧ i.size = 1 ∧ i.bytes = 4 := by simpa using h1
  exact ⟨i, hi, hz, hs, hb⟩
/-- Two words behind one another, the second 0: what trimmed makes of them. -/
theorem trim_two (a : Nat) : trimL [a, 0] = trimL [a] := by by_cases h : a = 0 <;> simp [trimL, h]
/-- Two fresh words, trimmed. -/
theorem trim_fresh2 (g n a b : Nat) (W : World) (hg : g < W.heap.size) (h : W.cell? ⟨g, 0, none⟩ = some (.int .u32 (a : Int))) (h' : W.cell? ⟨g, 1, none⟩ = some (.int .u32 (b : Int))) (hn : 2 ≤ n) :
    Calls Tryz.prog 137 #[.slice (some ⟨g, 0, none⟩) 2 n] W fun e w' => ∃ v', e = .returned v' ∧ WV w' v' (trimL [a, b]) ∧ w' = W :=
  (trim_any2 _ [a, b] W ⟨some ⟨g, 0, none⟩, n, rfl, by simpa using hn, by simp, fun k hk => ⟨_, rfl, hg, by
    have : k = 0 ∨ k = 1 := by have := hk; simp at this; omega
    rcases this with rfl | rfl
    · rw [addr_add_zero, h]; rfl
    · exact h'⟩⟩ (by simp)).mono fun _ _ h => by
      obtain ⟨v, h1, h2, h3⟩ := h
      exact ⟨v, h1, by rw [h3]; exact h2, h3⟩
theorem trim_zero2 (B a : Nat) : Hid (∀ W : World, B < W.heap.size → W.cell? ⟨B, 0, none⟩ = some (.int .u32 (a : Int)) → W.cell? ⟨B, 1, none⟩ = some (.int .u32 0) → Calls Tryz.prog 137 #[.slice (some ⟨B, 0, none⟩) 2 2] W fun e w' => ∃ v', e = .returned v' ∧ WV w' v' (trimL [a]) ∧ w' = W) := fun W g h h' => by
  rw [← trim_two]
  exact trim_fresh2 _ _ _ _ W g h h' (by omega)
theorem plus11 (xa ya : Addr) (xc yc a b : Nat) (w : World) (hx : w.cell? xa = some (.int .u32 (a : Int))) (hy : w.cell? ya = some (.int .u32 (b : Int))) (hxb : xa.block < w.heap.size) (hyb : ya.block < w.heap.size) (hab : a + b < 1000000000) :
    Calls Tryz.prog 216 #[.slice (some xa) 1 xc, .slice (some ya) 1 yc] w fun e w' => ∃ v, e = .returned v ∧ WV w' v (trimL [a + b]) ∧ Below w.heap.size w w' := by
  have h1 : (a : Int) % 4294967296 = (a : Int) := by omega
  have h2 : ((a : Int) + (b : Int)) % 4294967296 = ((a + b : Nat) : Int) := by omega
  have h3 : ((a + b : Nat) : Int).tdiv 1000000000 = 0 := by rw [Int.tdiv_eq_zero_of_lt] <;> omega
  have h4 : ((a + b : Nat) : Int).tmod 1000000000 = ((a + b : Nat) : Int) := by rw [Int.tmod_eq_of_lt] <;> omega
  have HT := trim_zero2 w.heap.size (a + b)
  generalize a + b = d at *
  clear hab
  go_enter Tryz.func216, Tryz.ntmps216
  go_wp2_with (at_make; refine wpList_words w rfl _ _ rfl 0 2 #[.int .u32 0, .int .u32 0] rfl rfl (by omega) (by omega) rfl ?_)
  refine wp_loop_rounds 2 ?_
  rw [rounds_succ]
  go_wp2_with fail
  rw [rounds_succ]
  go_wp2_with fail
  refine (HT.out _ (by simp; omega) (by go_cell) (by go_cell)).mono ?_
  rintro e w' ⟨v, rfl, hv, rfl⟩
  go_wp2
  go_ret
  exact ⟨_, rfl, hv, by go_grown⟩
theorem plus10 (xa : Addr) (p : Option Addr) (xc yc a : Nat) (w : World) (hx : w.cell? xa = some (.int .u32 (a : Int))) (hxb : xa.block < w.heap.size) (hab : a < 1000000000) :
    Calls Tryz.prog 216 #[.slice (some xa) 1 xc, .slice p 0 yc] w fun e w' => ∃ v, e = .returned v ∧ WV w' v (trimL [a]) ∧ Below w.heap.size w w' := by
  have h1 : (a : Int) % 4294967296 = (a : Int) := by omega
  have h3 : (a : Int).tdiv 1000000000 = 0 := by rw [Int.tdiv_eq_zero_of_lt] <;> omega
  have h4 : (a : Int).tmod 1000000000 = (a : Int) := by rw [Int.tmod_eq_of_lt] <;> omega
  have HT := trim_zero2 w.heap.size a
  clear hab
  go_enter Tryz.func216, Tryz.ntmps216
  go_wp2_with (at_make; refine wpList_words w rfl _ _ rfl 0 2 #[.int .u32 0, .int .u32 0] rfl rfl (by omega) (by omega) rfl ?_)
  refine wp_loop_rounds 2 ?_
  rw [rounds_succ]
  go_wp2_with fail
  rw [rounds_succ]
  go_wp2_with fail
  refine (HT.out _ (by simp; omega) (by go_cell) (by go_cell)).mono ?_
  rintro e w' ⟨v, rfl, hv, rfl⟩
  go_wp2
  go_ret
  exact ⟨_, rfl, hv, by go_grown⟩
theorem plus01 (xa : Addr) (p : Option Addr) (xc yc a : Nat) (w : World) (hx : w.cell? xa = some (.int .u32 (a : Int))) (hxb : xa.block < w.heap.size) (hab : a < 1000000000) :
    Calls Tryz.prog 216 #[.slice p 0 yc, .slice (some xa) 1 xc] w fun e w' => ∃ v, e = .returned v ∧ WV w' v (trimL [a]) ∧ Below w.heap.size w w' := by
  have h1 : (a : Int) % 4294967296 = (a : Int) := by omega
  have h3 : (a : Int).tdiv 1000000000 = 0 := by rw [Int.tdiv_eq_zero_of_lt] <;> omega
  have h4 : (a : Int).tmod 1000000000 = (a : Int) := by rw [Int.tmod_eq_of_lt] <;> omega
  have HT := trim_zero2 w.heap.size a
  clear hab
  go_enter Tryz.func216, Tryz.ntmps216
  go_wp2_with (at_make; refine wpList_words w rfl _ _ rfl 0 2 #[.int .u32 0, .int .u32 0] rfl rfl (by omega) (by omega) rfl ?_)
  refine wp_loop_rounds 2 ?_
  rw [rounds_succ]
  go_wp2_with fail
  rw [rounds_succ]
  go_wp2_with fail
  refine (HT.out _ (by simp; omega) (by go_cell) (by go_cell)).mono ?_
  rintro e w' ⟨v, rfl, hv, rfl⟩
  go_wp2
  go_ret
  exact ⟨_, rfl, hv, by go_grown⟩
theorem plus00 (p q : Option Addr) (xc yc : Nat) (w : World) :
    Calls Tryz.prog 216 #[.slice p 0 xc, .slice q 0 yc] w fun e w' => ∃ v, e = .returned v ∧ WV w' v (trimL [0]) ∧ Below w.heap.size w w' := by
  have HT : Hid (∀ W : World, w.heap.size < W.heap.size → W.cell? ⟨w.heap.size, 0, none⟩ = some (.int .u32 0) → Calls Tryz.prog 137 #[.slice (some ⟨w.heap.size, 0, none⟩) 1 1] W fun e w' => ∃ v', e = .returned v' ∧ WV w' v' (trimL [0]) ∧ w' = W) := fun W g h => trim_fresh1 _ _ W g h
  go_enter Tryz.func216, Tryz.ntmps216
  go_wp2_with (at_make; refine wpList_words w rfl _ _ rfl 0 1 #[.int .u32 0] rfl rfl (by omega) (by omega) rfl ?_)
  refine wp_loop_rounds 1 ?_
  rw [rounds_succ]
  go_wp2_with fail
  refine (HT.out _ (by simp; omega) (by go_cell)).mono ?_
  rintro e w' ⟨v, rfl, hv, rfl⟩
  go_wp2
  go_ret
  exact ⟨_, rfl, hv, by go_grown⟩
theorem plus_any (vx vy : Value) (a b : Nat) (w : World) (hx : NV w vx a) (hy : NV w vy b) (hab : a + b < 1000000000) :
    Calls Tryz.prog 216 #[vx, vy] w fun e w' => ∃ v, e = .returned v ∧ NV w' v (a + b) ∧ Below w.heap.size w w' := by
  have up : ∀ {e : Ending} {w' : World} {d : Nat}, (∃ v, e = .returned v ∧ WV w' v (trimL [d]) ∧ Below w.heap.size w w') → d = a + b → ∃ v, e = .returned v ∧ NV w' v (a + b) ∧ Below w.heap.size w w' := fun h hd => by
    subst hd
    obtain ⟨v, h1, h2, h3⟩ := h
    exact ⟨v, h1, ⟨h2, hab⟩, h3⟩
  have ha := hx.2
  have hb := hy.2
  rcases hx.parts with ⟨rfl, p, c, rfl⟩ | ⟨h0, xa, xc, rfl, -, hxb, hxc⟩
  · rcases hy.parts with ⟨rfl, q, d, rfl⟩ | ⟨h0, ya, yc, rfl, -, hyb, hyc⟩
    · exact (plus00 p q c d w).mono fun _ _ h => up h rfl
    · exact (plus01 ya p yc c b w hyc hyb hb).mono fun _ _ h => up h (by omega)
  · rcases hy.parts with ⟨rfl, q, d, rfl⟩ | ⟨h0, ya, yc, rfl, -, hyb, hyc⟩
    · exact (plus10 xa q xc d a w hxc hxb ha).mono fun _ _ h => up h rfl
    · exact (plus11 xa ya xc yc a b w hxc hyc hxb hyb hab).mono fun _ _ h => up h rfl
end Go.Proofs.YtjfggodnfoknfaaGreatDoor

namespace Go.Proofs.YtjfggodnfoknfaaGreatDoor
open Go.RowKit
theorem cmp00 (p q : Option Addr) (xc yc : Nat) (w : World) :
    Calls Tryz.prog 217 #[.slice p 0 xc, .slice q 0 yc] w fun e w' => e = .returned (.int .i64 0) ∧ w' = w := by
  go_enter Tryz.func217, Tryz.ntmps217
  go_wp2
  go_rounds 1
  go_ret
  exact ⟨rfl, rfl⟩
theorem cmp01 (p : Option Addr) (q : Addr) (xc yc : Nat) (w : World) :
    Calls Tryz.prog 217 #[.slice p 0 xc, .slice (some q) 1 yc] w fun e w' => e = .returned (.int .i64 (-1)) ∧ w' = w := by
  go_enter Tryz.func217, Tryz.ntmps217
  go_wp2
  go_ret
  exact ⟨rfl, rfl⟩
theorem cmp10 (p : Option Addr) (q : Addr) (xc yc : Nat) (w : World) :
    Calls Tryz.prog 217 #[.slice (some q) 1 yc, .slice p 0 xc] w fun e w' => e = .returned (.int .i64 1) ∧ w' = w := by
  go_enter Tryz.func217, Tryz.ntmps217
  go_wp2
  go_ret
  exact ⟨rfl, rfl⟩
theorem cmp11 (xa ya : Addr) (xc yc a b : Nat) (w : World) (hx : w.cell? xa = some (.int .u32 (a : Int))) (hy : w.cell? ya = some (.int .u32 (b : Int))) (ha : a < 1000000000) (hb : b < 1000000000) :
    Calls Tryz.prog 217 #[.slice (some xa) 1 xc, .slice (some ya) 1 yc] w fun e w' => ∃ n, w' = w.drewN n ∧ e = .returned (.int .i64 ((a : Int) - (b : Int))) := by
  have h1 : wrap64 (a : Int) = (a : Int) := by rw [IntWalk.wrap64_in] <;> omega
  have h2 : wrap64 (b : Int) = (b : Int) := by rw [IntWalk.wrap64_in] <;> omega
  have h3 : wrap64 ((a : Int) - (b : Int)) = (a : Int) - (b : Int) := by rw [IntWalk.wrap64_in] <;> omega
  by_cases hab : a = b
  · subst hab
    have h4 : ((a : Int) == (a : Int)) = true := by simp
    rw [show (a : Int) - (a : Int) = 0 by omega] at h3 ⊢
    clear ha hb
    go_enter Tryz.func217, Tryz.ntmps217
    go_wp2
    refine wp_loop_rounds 2 ?_
    rw [rounds_succ]
    go_wp2_with fail
    go_quiet (first | (fail))
    go_wp2_with fail
    rw [rounds_succ]
    go_wp2_with fail
    go_ret
    exact ⟨_, rfl, rfl⟩
  · have h4 : ((a : Int) == (b : Int)) = false := by simp; omega
    clear ha hb hab
    go_enter Tryz.func217, Tryz.ntmps217
    go_wp2
    refine wp_loop_rounds 2 ?_
    rw [rounds_succ]
    go_wp2_with fail
    go_quiet (first | (fail))
    go_wp2_with fail
    go_quiet (first | (fail))
    go_wp2_with fail
    go_ret
    exact ⟨_, by rw [World.drewN_drewN], congrArg (fun z => Ending.returned (.int .i64 z)) h3⟩
theorem ncmp_any (vx vy : Value) (a b : Nat) (w : World) (hx : NV w vx a) (hy : NV w vy b) :
    Calls Tryz.prog 217 #[vx, vy] w fun e w' => ∃ n z, w' = w.drewN n ∧ e = .returned (.int .i64 z) ∧ (0 ≤ z ↔ b ≤ a) := by
  have ha := hx.2
  have hb := hy.2
  rcases hx.parts with ⟨rfl, p, c, rfl⟩ | ⟨h0, xa, xc, rfl, -, hxb, hxc⟩
  · rcases hy.parts with ⟨rfl, q, d, rfl⟩ | ⟨h0, ya, yc, rfl, -, hyb, hyc⟩
    · exact (cmp00 p q c d w).mono fun _ _ h => ⟨0, 0, h.2, h.1, by simp⟩
    · exact (cmp01 p ya c yc w).mono fun _ _ h => ⟨0, -1, h.2, h.1, by omega⟩
  · rcases hy.parts with ⟨rfl, q, d, rfl⟩ | ⟨h0, ya, yc, rfl, -, hyb, hyc⟩
    · exact (cmp10 q xa d xc w).mono fun _ _ h => ⟨0, 1, h.2, h.1, by omega⟩
    · exact (cmp11 xa ya xc yc a b w hxc hyc ha hb).mono fun _ _ h => by
        obtain ⟨n, h1, h2⟩ := h
        exact ⟨n, _, h1, h2, by omega⟩
theorem mul11 (xa ya : Addr) (xc yc a b : Nat) (w : World) (hx : w.cell? xa = some (.int .u32 (a : Int))) (hy : w.cell? ya = some (.int .u32 (b : Int))) (hxb : xa.block < w.heap.size) (hyb : ya.block < w.heap.size) (ha : a < 1000000000) (hb : b < 1000000000) (hab : a * b < 1000000000) :
    Calls Tryz.prog 215 #[.slice (some xa) 1 xc, .slice (some ya) 1 yc] w fun e w' => ∃ v, e = .returned v ∧ WV w' v (trimL [a * b]) ∧ Below w.heap.size w w' := by
  have h1 : (a : Int) % 18446744073709551616 = (a : Int) := by omega
  have h2 : (b : Int) % 18446744073709551616 = (b : Int) := by omega
  have h3 : (a : Int) * (b : Int) = ((a * b : Nat) : Int) := by simp
  have HT := trim_zero2 w.heap.size (a * b)
  generalize a * b = d at *
  have h4 : (d : Int) % 18446744073709551616 = (d : Int) := by omega
  have h5 : (d : Int).tdiv 1000000000 = 0 := by rw [Int.tdiv_eq_zero_of_lt] <;> omega
  have h6 : (d : Int).tmod 1000000000 = (d : Int) := by rw [Int.tmod_eq_of_lt] <;> omega
  have h7 : (d : Int) % 4294967296 = (d : Int) := by omega
  clear ha hb hab
  go_enter Tryz.func215, Tryz.ntmps215
  go_wp2_with (at_make; refine wpList_words w rfl _ _ rfl 2 2 #[.int .u32 0, .int .u32 0] rfl rfl (by omega) (by omega) rfl ?_)
  refine wp_loop_rounds 2 ?_
  rw [rounds_succ]
  go_wp2_with fail
  refine wp_loop_rounds 2 ?_
  rw [rounds_succ]
  go_wp2_with fail
  rw [rounds_succ]
  go_wp2_with fail
  rw [rounds_succ]
  go_wp2_with fail
  refine (HT.out _ (by simp) (by go_cell) (by go_cell)).mono ?_
  rintro e w' ⟨v, rfl, hv, rfl⟩
  go_wp2
  go_ret
  exact ⟨_, rfl, hv, by go_grown⟩
theorem mul10 (xa : Addr) (p : Option Addr) (xc yc a : Nat) (w : World) (hx : w.cell? xa = some (.int .u32 (a : Int))) (hxb : xa.block < w.heap.size) :
    Calls Tryz.prog 215 #[.slice (some xa) 1 xc, .slice p 0 yc] w fun e w' => ∃ v, e = .returned v ∧ WV w' v (trimL [0]) ∧ Below w.heap.size w w' := by
  have HT : Hid (∀ W : World, w.heap.size < W.heap.size → W.cell? ⟨w.heap.size, 0, none⟩ = some (.int .u32 0) → Calls Tryz.prog 137 #[.slice (some ⟨w.heap.size, 0, none⟩) 1 1] W fun e w' => ∃ v', e = .returned v' ∧ WV w' v' (trimL [0]) ∧ w' = W) := fun W g h => trim_fresh1 _ _ W g h
  go_enter Tryz.func215, Tryz.ntmps215
  go_wp2_with (at_make; refine wpList_words w rfl _ _ rfl 1 1 #[.int .u32 0] rfl rfl (by omega) (by omega) rfl ?_)
  refine wp_loop_rounds 2 ?_
  rw [rounds_succ]
  go_wp2_with fail
  refine wp_loop_rounds 1 ?_
  rw [rounds_succ]
  go_wp2_with fail
  rw [rounds_succ]
  go_wp2_with fail
  refine (HT.out _ (by simp) (by go_cell)).mono ?_
  rintro e w' ⟨v, rfl, hv, rfl⟩
  go_wp2
  go_ret
  exact ⟨_, rfl, hv, by go_grown⟩
theorem mul01 (xa : Addr) (p : Option Addr) (xc yc : Nat) (w : World) :
    Calls Tryz.prog 215 #[.slice p 0 yc, .slice (some xa) 1 xc] w fun e w' => ∃ v, e = .returned v ∧ WV w' v (trimL [0]) ∧ Below w.heap.size w w' := by
  have HT : Hid (∀ W : World, w.heap.size < W.heap.size → W.cell? ⟨w.heap.size, 0, none⟩ = some (.int .u32 0) → Calls Tryz.prog 137 #[.slice (some ⟨w.heap.size, 0, none⟩) 1 1] W fun e w' => ∃ v', e = .returned v' ∧ WV w' v' (trimL [0]) ∧ w' = W) := fun W g h => trim_fresh1 _ _ W g h
  go_enter Tryz.func215, Tryz.ntmps215
  go_wp2_with (at_make; refine wpList_words w rfl _ _ rfl 1 1 #[.int .u32 0] rfl rfl (by omega) (by omega) rfl ?_)
  refine wp_loop_rounds 1 ?_
  rw [rounds_succ]
  go_wp2_with fail
  refine (HT.out _ (by simp) (by go_cell)).mono ?_
  rintro e w' ⟨v, rfl, hv, rfl⟩
  go_wp2
  go_ret
  exact ⟨_, rfl, hv, by go_grown⟩
theorem mul00 (p q : Option Addr) (xc yc : Nat) (w : World) :
    Calls Tryz.prog 215 #[.slice p 0 xc, .slice q 0 yc] w fun e w' => ∃ v, e = .returned v ∧ WV w' v (trimL [0]) ∧ Below w.heap.size w w' := by
  have HT : Hid (∀ W : World, Calls Tryz.prog 137 #[.slice (some ⟨w.heap.size, 0, none⟩) 0 0] W fun e w' => e = .returned (.slice (some ⟨w.heap.size, 0, none⟩) 0 0) ∧ w' = W) := fun W => trim0_any _ _ W
  go_enter Tryz.func215, Tryz.ntmps215
  go_wp2_with (at_make; refine wpList_words w rfl _ _ rfl 0 0 #[] rfl rfl (by omega) (by omega) rfl ?_)
  refine wp_loop_rounds 1 ?_
  rw [rounds_succ]
  go_wp2_with fail
  refine (HT.out _).mono ?_
  rintro e w' ⟨rfl, rfl⟩
  go_wp2
  go_ret
  exact ⟨_, rfl, (NV.zero _ _ _).1, by go_grown⟩
theorem times_any (vx vy : Value) (a b : Nat) (w : World) (hx : NV w vx a) (hy : NV w vy b) (hab : a * b < 1000000000) :
    Calls Tryz.prog 215 #[vx, vy] w fun e w' => ∃ v, e = .returned v ∧ NV w' v (a * b) ∧ Below w.heap.size w w' := by
  have up : ∀ {e : Ending} {w' : World} {d : Nat}, (∃ v, e = .returned v ∧ WV w' v (trimL [d]) ∧ Below w.heap.size w w') → d = a * b → ∃ v, e = .returned v ∧ NV w' v (a * b) ∧ Below w.heap.size w w' := fun h hd => by
    subst hd
    obtain ⟨v, h1, h2, h3⟩ := h
    exact ⟨v, h1, ⟨h2, hab⟩, h3⟩
  have ha := hx.2
  have hb := hy.2
  rcases hx.parts with ⟨rfl, p, c, rfl⟩ | ⟨h0, xa, xc, rfl, -, hxb, hxc⟩
  · rcases hy.parts with ⟨rfl, q, d, rfl⟩ | ⟨h0, ya, yc, rfl, -, hyb, hyc⟩
    · exact (mul00 p q c d w).mono fun _ _ h => up h rfl
    · exact (mul01 ya p yc c w).mono fun _ _ h => up h (by simp)
  · rcases hy.parts with ⟨rfl, q, d, rfl⟩ | ⟨h0, ya, yc, rfl, -, hyb, hyc⟩
    · exact (mul10 xa q xc d a w hxc hxb).mono fun _ _ h => up h rfl
    · exact (mul11 xa ya xc yc a b w hxc hyc hxb hyb ha hb hab).mono fun _ _ h => up h rfl
end Go.Proofs.YtjfggodnfoknfaaGreatDoor

namespace Go.Proofs.YtjfggodnfoknfaaGreatDoor
open Go.RowKit
theorem short1 (xa : Addr) (xc a d : Nat) (w : World) (hx : w.cell? xa = some (.int .u32 (a : Int))) (hxb : xa.block < w.heap.size) (ha : a < 1000000000) (hd : d ≠ 0) (hd2 : d < 1000000000) :
    Calls Tryz.prog 228 #[.slice (some xa) 1 xc, .int .u32 (d : Int)] w fun e w' => ∃ v u, e = .returned (.tuple #[v, u]) ∧ WV w' v (trimL [a / d]) ∧ WV w' u (trimL [a % d]) ∧ Below w.heap.size w w' := by
  have h1 : (a : Int) % 18446744073709551616 = (a : Int) := by omega
  have h2 : (d : Int) % 18446744073709551616 = (d : Int) := by omega
  have h0 : ((d : Int) == 0) = false := by simp; omega
  have h00 : ¬ (d : Int) = 0 := by omega
  have hq := Nat.div_le_self a d
  have hr := Nat.mod_lt a (by omega : 0 < d)
  have h3 : (a : Int).tdiv (d : Int) = ((a / d : Nat) : Int) := by rw [Int.tdiv_eq_ediv_of_nonneg (by omega)]; simp
  have h4 : (a : Int).tmod (d : Int) = ((a % d : Nat) : Int) := by rw [Int.tmod_eq_emod_of_nonneg (by omega)]; simp
  have HT : Hid (∀ W : World, w.heap.size < W.heap.size → W.cell? ⟨w.heap.size, 0, none⟩ = some (.int .u32 ((a / d : Nat) : Int)) → Calls Tryz.prog 137 #[.slice (some ⟨w.heap.size, 0, none⟩) 1 1] W fun e w' => ∃ v', e = .returned v' ∧ WV w' v' (trimL [a / d]) ∧ w' = W) := fun W g h => trim_fresh1 _ _ W g h
  have HU : Hid (∀ W : World, w.heap.size + 1 < W.heap.size → W.cell? ⟨w.heap.size + 1, 0, none⟩ = some (.int .u32 ((a % d : Nat) : Int)) → Calls Tryz.prog 137 #[.slice (some ⟨w.heap.size + 1, 0, none⟩) 1 1] W fun e w' => ∃ v', e = .returned v' ∧ WV w' v' (trimL [a % d]) ∧ w' = W) := fun W g h => trim_fresh1 _ _ W g h
  generalize a / d = q at *
  generalize a % d = r at *
  have h5 : (q : Int) % 18446744073709551616 = (q : Int) := by omega
  have h6 : (r : Int) % 18446744073709551616 = (r : Int) := by omega
  have h7 : (q : Int) % 4294967296 = (q : Int) := by omega
  have h8 : (r : Int) % 4294967296 = (r : Int) := by omega
  clear ha hd hd2 hq hr
  go_enter Tryz.func228, Tryz.ntmps228
  go_wp2_with (at_make; refine wpList_words w rfl _ _ rfl 1 1 #[.int .u32 0] rfl rfl (by omega) (by omega) rfl ?_)
  refine wp_loop_rounds 2 ?_
  rw [rounds_succ]
  go_wp2_with fail
  rw [rounds_succ]
  go_wp2_with fail
  refine (HT.out _ (by simp) (by go_cell)).mono ?_
  rintro e w' ⟨v, rfl, hv, rfl⟩
  go_wp2_with fail
  refine (HU.out _ (by simp) (by go_cell)).mono ?_
  rintro e w' ⟨u, rfl, hu, rfl⟩
  go_wp2
  go_ret2
  exact ⟨_, _, rfl, RV.below hv ((below_alloc _ _)), hu, by go_grown⟩
theorem short0 (p : Option Addr) (c d : Nat) (w : World) :
    Calls Tryz.prog 228 #[.slice p 0 c, .int .u32 (d : Int)] w fun e w' => ∃ v u, e = .returned (.tuple #[v, u]) ∧ WV w' v (trimL [0]) ∧ WV w' u (trimL [0]) ∧ Below w.heap.size w w' := by
  have HT : Hid (∀ W : World, Calls Tryz.prog 137 #[.slice (some ⟨w.heap.size, 0, none⟩) 0 0] W fun e w' => e = .returned (.slice (some ⟨w.heap.size, 0, none⟩) 0 0) ∧ w' = W) := fun W => trim0_any _ _ W
  have HU : Hid (∀ W : World, w.heap.size + 1 < W.heap.size → W.cell? ⟨w.heap.size + 1, 0, none⟩ = some (.int .u32 0) → Calls Tryz.prog 137 #[.slice (some ⟨w.heap.size + 1, 0, none⟩) 1 1] W fun e w' => ∃ v', e = .returned v' ∧ WV w' v' (trimL [0]) ∧ w' = W) := fun W g h => trim_fresh1 _ _ W g h
  go_enter Tryz.func228, Tryz.ntmps228
  go_wp2_with (at_make; refine wpList_words w rfl _ _ rfl 0 0 #[] rfl rfl (by omega) (by omega) rfl ?_)
  refine wp_loop_rounds 1 ?_
  rw [rounds_succ]
  go_wp2_with fail
  refine (HT.out _).mono ?_
  rintro e w' ⟨rfl, rfl⟩
  go_wp2_with fail
  refine (HU.out _ (by simp) (by go_cell)).mono ?_
  rintro e w' ⟨u, rfl, hu, rfl⟩
  go_wp2
  go_ret2
  exact ⟨_, _, rfl, (NV.zero _ _ _).1, hu, by go_grown⟩
theorem short_any' (vx : Value) (a d : Nat) (w : World) (hx : NV w vx a) (hd : d ≠ 0) (hd2 : d < 1000000000) :
    Calls Tryz.prog 228 #[vx, .int .u32 (d : Int)] w fun e w' => ∃ v u, e = .returned (.tuple #[v, u]) ∧ NV w' v (a / d) ∧ NV w' u (a % d) ∧ Below w.heap.size w w' := by
  have ha := hx.2
  have h1 := Nat.div_le_self a d
  have h2 := Nat.mod_le a d
  rcases hx.parts with ⟨rfl, p, c, rfl⟩ | ⟨h0, xa, xc, rfl, -, hxb, hxc⟩
  · exact (short0 p c d w).mono fun _ _ h => by
      obtain ⟨v, u, e, h3, h4, h5⟩ := h
      exact ⟨v, u, e, ⟨by rw [Nat.zero_div]; exact h3, by omega⟩, ⟨by rw [Nat.zero_mod]; exact h4, by omega⟩, h5⟩
  · exact (short1 xa xc a d w hxc hxb ha hd hd2).mono fun _ _ h => by
      obtain ⟨v, u, e, h3, h4, h5⟩ := h
      exact ⟨v, u, e, ⟨h3, by omega⟩, ⟨h4, by omega⟩, h5⟩
theorem divided_any (vx vy : Value) (a d : Nat) (w : World) (hx : NV w vx a) (hy : NV w vy d) (hd : d ≠ 0) :
    Calls Tryz.prog 219 #[vx, vy] w fun e w' => ∃ v u, e = .returned (.tuple #[v, u]) ∧ NV w' v (a / d) ∧ NV w' u (a % d) ∧ Below w.heap.size w w' := by
  have HS := Lib.hid (short_any' vx a d w hx hd hy.2)
  rcases hy.parts with ⟨rfl, -⟩ | ⟨h0, ya, yc, rfl, -, hyb, hyc⟩
  · exact absurd rfl hd
  · clear hx hy
    go_enter Tryz.func219, Tryz.ntmps219
    go_wp2_with fail
    refine HS.out.mono ?_
    rintro e w' ⟨v, u, rfl, hv, hu, hb⟩
    go_wp2
    go_ret2
    exact ⟨_, _, rfl, hv, hu, hb⟩
end Go.Proofs.YtjfggodnfoknfaaGreatDoor

namespace Go.Proofs.YtjfggodnfoknfaaGreatDoor
open Go.RowKit
/-- A number. -/
def ZN (w : World) (v : Value) (z : Int) : Prop := ∃ u, v = .agg #[.bool (decide (z < 0)), u] ∧ NV w u z.natAbs
theorem ZN.below {w w' : World} {v : Value} {z : Int} (h : ZN w v z) (hb : Below w.heap.size w w') : ZN w' v z := by
  obtain ⟨u, e, h⟩ := h
  exact ⟨u, e, h.below hb⟩
theorem num_size : (Tryz.prog.info? 131).map (·.size) = some 2 := by kernel_rfl
theorem signed0 (m : Bool) (p : Option Addr) (c : Nat) (w : World) :
    Calls Tryz.prog 136 #[.bool m, .slice p 0 c] w fun e w' => e = .returned (.agg #[.bool false, .slice p 0 c]) ∧ Below w.heap.size w w' := by
  cases m <;>
  · go_enter Tryz.func136, Tryz.ntmps136
    go_wp2
    go_returns
    exact ⟨rfl, by go_grown⟩
theorem signed1 (m : Bool) (p : Option Addr) (c : Nat) (w : World) :
    Calls Tryz.prog 136 #[.bool m, .slice p 1 c] w fun e w' => e = .returned (.agg #[.bool m, .slice p 1 c]) ∧ Below w.heap.size w w' := by
  cases m <;>
  · go_enter Tryz.func136, Tryz.ntmps136
    go_wp2
    go_returns
    exact ⟨rfl, by go_grown⟩
/-- What signed makes of a sign and a size. -/
def sgN (m : Bool) (a : Nat) : Int := if m then -(a : Int) else a
theorem sgN_abs (m : Bool) (a : Nat) : (sgN m a).natAbs = a := by cases m <;> simp [sgN]
theorem signed_any (m : Bool) (v : Value) (a : Nat) (w : World) (hv : NV w v a) :
    Calls Tryz.prog 136 #[.bool m, v] w fun e w' => ∃ p n c, e = .returned (.agg #[.bool (decide (sgN m a < 0)), .slice p n c]) ∧ NV w' (.slice p n c) (sgN m a).natAbs ∧ Below w.heap.size w w' := by
  have hl := hv.2
  rw [sgN_abs]
  rcases hv.parts with ⟨rfl, p, c, rfl⟩ | ⟨h0, ad, c, rfl, -, hb, hc⟩
  · refine (signed0 m p c w).mono fun e w' h => ⟨p, 0, c, ?_, NV.zero _ _ _, h.2⟩
    rw [h.1]
    cases m <;> rfl
  · refine (signed1 m (some ad) c w).mono fun e w' h => ⟨some ad, 1, c, ?_, hv.below h.2, h.2⟩
    rw [h.1]
    cases m
    · have : ¬ ((a : Int) < 0) := by omega
      simp [sgN, this]
    · have : 0 < a := by omega
      simp [sgN, this]
theorem ZN.parts {w : World} {v : Value} {z : Int} (h : ZN w v z) : ∃ p n c, v = .agg #[.bool (decide (z < 0)), .slice p n c] ∧ NV w (.slice p n c) z.natAbs := by
  obtain ⟨u, rfl, h⟩ := h
  rcases h.parts with ⟨h0, p, c, rfl⟩ | ⟨-, ad, c, rfl, -⟩
  · exact ⟨p, 0, c, rfl, h⟩
  · exact ⟨some ad, 1, c, rfl, h⟩
theorem ZN.mk {w : World} {p : Option Addr} {n c : Nat} {z : Int} (h : NV w (.slice p n c) z.natAbs) : ZN w (.agg #[.bool (decide (z < 0)), .slice p n c]) z := ⟨_, rfl, h⟩
theorem sgN_mul (x y : Int) : sgN (decide (x < 0) != decide (y < 0)) (x.natAbs * y.natAbs) = x * y := by
  rw [← Int.natAbs_mul]
  by_cases hx : x < 0 <;> by_cases hy : y < 0
  · have := Int.mul_pos_of_neg_of_neg hx hy
    simp [sgN, hx, hy]; omega
  · have := Int.mul_nonneg_iff_of_pos_right (a := y) (b := -x)
    have h2 : x * y ≤ 0 := Int.mul_nonpos_of_nonpos_of_nonneg (by omega) (by omega)
    simp [sgN, hx, hy]; omega
  · have h2 : x * y ≤ 0 := Int.mul_nonpos_of_nonneg_of_nonpos (by omega) (by omega)
    simp [sgN, hx, hy]; omega
  · have h2 : 0 ≤ x * y := Int.mul_nonneg (by omega) (by omega)
    simp [sgN, hx, hy]; omega
theorem sgN_self (x : Int) : sgN (decide (x < 0)) x.natAbs = x := by
  by_cases hx : x < 0 <;> simp [sgN, hx] <;> omega
end Go.Proofs.YtjfggodnfoknfaaGreatDoor

