/- Contract of slices.SortFunc at divisors, out of the shelf's. -/
import Derived.Test.YtjfggodnfoknfaaGreatDoorM18
import Derived.Ground.SlsfProg
import Derived.Shelf.SlGeneric
import Derived.Shelf.SlSortCmp.Whole1
set_option maxRecDepth 100000
set_option maxHeartbeats 16000000
namespace Go.Proofs.YtjfggodnfoknfaaGreatDoor
open Go.RowKit Go.Shelf Go.Sort

theorem cmpL_refl : ∀ xs, cmpL xs xs = 0
  | [] => rfl
  | x :: r => by
    have : cmpI x x = 0 := by simp [cmpI]
    rw [cmpL, if_neg (by simp [this]), cmpL_refl r]
theorem cmpL_cons (x y : Int) (r s : List Int) : cmpL (x :: r) (y :: s) = if x < y then -1 else if y < x then 1 else cmpL r s := by
  rw [cmpL]; unfold cmpI
  by_cases h1 : x < y
  · simp [h1]
  · by_cases h2 : y < x
    · simp [h1, h2]
    · simp [h1, h2]
theorem cmpL_nil_cons (y : Int) (s : List Int) : cmpL [] (y :: s) = -1 := by rw [cmpL]
theorem cmpL_cons_nil (x : Int) (r : List Int) : cmpL (x :: r) [] = 1 := by rw [cmpL]
theorem cmpL_nil : cmpL [] [] = 0 := by rw [cmpL]
theorem cmpL_lt : ∀ xs ys zs, cmpL xs ys < 0 → cmpL ys zs < 0 → cmpL xs zs < 0 := by
  intro xs
  induction xs with
  | nil =>
    intro ys zs h1 h2
    cases ys with
    | nil => rw [cmpL_nil] at h1; omega
    | cons y s => cases zs with
      | nil => rw [cmpL_cons_nil] at h2; omega
      | cons z t => rw [cmpL_nil_cons]; omega
  | cons x r ih =>
    intro ys zs h1 h2
    cases ys with
    | nil => rw [cmpL_cons_nil] at h1; omega
    | cons y s => cases zs with
      | nil => rw [cmpL_cons_nil] at h2; omega
      | cons z t =>
        rw [cmpL_cons] at h1 h2 ⊢
        have := ih s t
        repeat' split at h1
        all_goals (repeat' split at h2)
        all_goals (repeat' split)
        all_goals first | omega | exact this h1 h2
theorem cmpL_ge : ∀ xs ys zs, ¬ cmpL xs ys < 0 → ¬ cmpL ys zs < 0 → ¬ cmpL xs zs < 0 := by
  intro xs
  induction xs with
  | nil =>
    intro ys zs h1 h2
    cases ys with
    | nil => exact h2
    | cons y s => rw [cmpL_nil_cons] at h1; omega
  | cons x r ih =>
    intro ys zs h1 h2
    cases zs with
    | nil => rw [cmpL_cons_nil]; omega
    | cons z t => cases ys with
      | nil => rw [cmpL_nil_cons] at h2; omega
      | cons y s =>
        rw [cmpL_cons] at h1 h2 ⊢
        have := ih s t
        repeat' split at h1
        all_goals (repeat' split at h2)
        all_goals (repeat' split)
        all_goals first | omega | exact this h1 h2
theorem cmpL_anti : ∀ xs ys, ¬ cmpL xs ys < 0 → ¬ cmpL ys xs < 0 → xs = ys := by
  intro xs
  induction xs with
  | nil =>
    intro ys h1 h2
    cases ys with
    | nil => rfl
    | cons y s => rw [cmpL_nil_cons] at h1; omega
  | cons x r ih =>
    intro ys h1 h2
    cases ys with
    | nil => rw [cmpL_nil_cons] at h2; omega
    | cons y s =>
      rw [cmpL_cons] at h1 h2
      have := ih s
      repeat' split at h1
      all_goals (repeat' split at h2)
      all_goals first | omega | (rw [this h1 h2]; congr 1; omega)
/-- The sort of slices by a function, at this program: the same numbers, read off. -/
def sortD_ren : Go.Shelf.Ren := ⟨fun | 6 => 27 | 15 => 53 | 14 => 52 | 28 => 86 | 29 => 87 | 20 => 78 | 21 => 79 | 22 => 80 | 23 => 81 | 24 => 82 | 25 => 83 | 26 => 84 | 27 => 85 | 46 => 116 | 47 => 117 | 48 => 118 | 49 => 119 | 50 => 120 | 57 => 152 | n => n, fun | 22 => 30 | 24 => 26 | 25 => 41 | 3 => 3 | 39 => 81 | 0 => 0 | 53 => 115 | 55 => 117 | 4 => 4 | 46 => 108 | 45 => 107 | 50 => 112 | 5 => 5 | 9 => 9 | 66 => 161 | 70 => 165 | 76 => 206 | 77 => 207 | n => n, fun | n => n⟩
theorem sortD : Go.Proofs.SlLaysF.n6 Tryz.prog sortD_ren := {
  mixed := by kernel_rfl
  f6 := ⟨Tryz.f27.name, by decide, Tryz.func27.trans (congrArg some (by kernel_rfl))⟩
  f14 := ⟨Tryz.f52.name, by decide, Tryz.func52.trans (congrArg some (by kernel_rfl))⟩
  f15 := Tryz.func53.trans (congrArg some (by kernel_rfl))
  f20 := ⟨Tryz.f78.name, by decide, Tryz.func78.trans (congrArg some (by kernel_rfl))⟩
  f21 := ⟨Tryz.f79.name, by decide, Tryz.func79.trans (congrArg some (by kernel_rfl))⟩
  f22 := ⟨Tryz.f80.name, by decide, Tryz.func80.trans (congrArg some (by kernel_rfl))⟩
  f23 := ⟨Tryz.f81.name, by decide, Tryz.func81.trans (congrArg some (by kernel_rfl))⟩
  f24 := ⟨Tryz.f82.name, by decide, Tryz.func82.trans (congrArg some (by kernel_rfl))⟩
  f25 := ⟨Tryz.f83.name, by decide, Tryz.func83.trans (congrArg some (by kernel_rfl))⟩
  f26 := ⟨Tryz.f84.name, by decide, Tryz.func84.trans (congrArg some (by kernel_rfl))⟩
  f27 := ⟨Tryz.f85.name, by decide, Tryz.func85.trans (congrArg some (by kernel_rfl))⟩
  f28 := Tryz.func86.trans (congrArg some (by kernel_rfl))
  f29 := Tryz.func87.trans (congrArg some (by kernel_rfl))
  f46 := ⟨Tryz.f116.name, by decide, Tryz.func116.trans (congrArg some (by kernel_rfl))⟩
  f47 := Tryz.func117.trans (congrArg some (by kernel_rfl))
  f48 := Tryz.func118.trans (congrArg some (by kernel_rfl))
  f49 := ⟨Tryz.f119.name, by decide, Tryz.func119.trans (congrArg some (by kernel_rfl))⟩
  f50 := ⟨Tryz.f120.name, by decide, Tryz.func120.trans (congrArg some (by kernel_rfl))⟩
  f57 := ⟨Tryz.f152.name, by decide, Tryz.func152.trans (congrArg some (by kernel_rfl))⟩
  t0 := Tryz.underlying0
  a0 := Tryz.isAgg0
  z0 := Tryz.sizeOf0
  v0 := Tryz.zeroValue0
  t3 := Tryz.underlying3
  a3 := Tryz.isAgg3
  z3 := Tryz.sizeOf3
  v3 := Tryz.zeroValue3
  t4 := Tryz.underlying4
  a4 := Tryz.isAgg4
  z4 := Tryz.sizeOf4
  v4 := Tryz.zeroValue4
  t5 := Tryz.underlying5
  a5 := Tryz.isAgg5
  z5 := Tryz.sizeOf5
  v5 := Tryz.zeroValue5
  t9 := Tryz.underlying9
  a9 := Tryz.isAgg9
  z9 := Tryz.sizeOf9
  v9 := Tryz.zeroValue9
  t22 := Tryz.underlying30
  a22 := Tryz.isAgg30
  z22 := Tryz.sizeOf30
  v22 := Tryz.zeroValue30
  a24 := Tryz.isAgg26
  z24 := Tryz.sizeOf26
  t25 := Tryz.underlying41
  a25 := Tryz.isAgg41
  z25 := Tryz.sizeOf41
  v25 := Tryz.zeroValue41
  t39 := Tryz.underlying81
  a39 := Tryz.isAgg81
  z39 := Tryz.sizeOf81
  v39 := Tryz.zeroValue81
  t45 := Tryz.underlying107
  a45 := Tryz.isAgg107
  z45 := Tryz.sizeOf107
  v45 := Tryz.zeroValue107
  t46 := Tryz.underlying108
  a46 := Tryz.isAgg108
  z46 := Tryz.sizeOf108
  v46 := Tryz.zeroValue108
  t50 := Tryz.underlying112
  a50 := Tryz.isAgg112
  z50 := Tryz.sizeOf112
  v50 := Tryz.zeroValue112
  t53 := Tryz.underlying115
  a53 := Tryz.isAgg115
  z53 := Tryz.sizeOf115
  v53 := Tryz.zeroValue115
  t55 := Tryz.underlying117
  a55 := Tryz.isAgg117
  z55 := Tryz.sizeOf117
  v55 := Tryz.zeroValue117
  t66 := Tryz.underlying161
  a66 := Tryz.isAgg161
  z66 := Tryz.sizeOf161
  v66 := Tryz.zeroValue161
  t70 := Tryz.underlying165
  a70 := Tryz.isAgg165
  z70 := Tryz.sizeOf165
  v70 := Tryz.zeroValue165
  t76 := Tryz.underlying206
  a76 := Tryz.isAgg206
  z76 := Tryz.sizeOf206
  v76 := Tryz.zeroValue206
  t77 := Tryz.underlying207
  a77 := Tryz.isAgg207
  z77 := Tryz.sizeOf207
  v77 := Tryz.zeroValue207 }
theorem sw_heap {α : Type} [Inhabited α] (enc : α → Value) (W : World) (g m : Nat) (dk : Array α) (os : Array Obj) : Fr [g] W (sortWorld enc W g 0 m dk os) := by
  refine ⟨rfl, rfl, rfl, ?_, fun k hk hn => ?_⟩
  · show W.heap.size ≤ ((W.heap.modify g _) ++ os).size
    simp
  · show ((W.heap.modify g _) ++ os)[k]? = _
    simp only [List.mem_cons, List.not_mem_nil, or_false] at hn
    rw [Array.getElem?_append_left (by simpa using hk), Array.getElem?_modify, if_neg (fun e => hn e.symm)]
theorem sw_cell {α : Type} [Inhabited α] (enc : α → Value) (W : World) (g m : Nat) (d dk : Array α) (os : Array Obj) (hH : Go.Sort.Holds enc W g 0 d) (hs : dk.size = d.size) {j : Nat} (hj : j < dk.size) :
    (sortWorld enc W g 0 m dk os).cell? ⟨g, j, none⟩ = some (enc dk[j]!) := by
  have h := (holds_putRow enc (Go.Sort.ahead W m) g 0 d dk hH hs j hj).1
  rw [Nat.zero_add] at h
  obtain ⟨c, e, fr, hh, hc⟩ := cells_of_cell? h
  have hl : g < (putRow enc (Go.Sort.ahead W m) g 0 dk).heap.size := lt_of_block hh
  have : (sortWorld enc W g 0 m dk os).heap[g]? = some (.cells c e fr) := by
    show ((putRow enc (Go.Sort.ahead W m) g 0 dk).heap ++ os)[g]? = _
    rw [Array.getElem?_append_left hl]; exact hh
  rw [cell_of_row _ g j c e fr this]
  exact hc
theorem sortD_any (W : World) (B g cap : Nat) (items : List (Value × List Int)) (hov : OV W B 26 (.slice (some ⟨g, 0, none⟩) items.length cap) (items.map (·.1))) (hne : items ≠ []) (hoi : ∀ x ∈ items, ∃ B', OI W B' x.1 x.2) :
    Calls Tryz.prog 27 #[.slice (some ⟨g, 0, none⟩) items.length cap, .func (.func 28) #[] #[]] W fun e w' =>
      e = .returned (.tuple #[]) ∧ ∃ its : List (Value × List Int), its.Perm items ∧ (∀ (i j : Nat) (a b : Value × List Int), i < j → its[i]? = some a → its[j]? = some b → ¬ cmpL b.2 a.2 < 0) ∧
        RV w' (.slice (some ⟨g, 0, none⟩) items.length cap) (its.map (·.1)) ∧ (∀ x ∈ its, RI w' x.1 x.2) ∧ Fr [g] W w' := by
  obtain ⟨x0, r0, hx0⟩ := List.exists_cons_of_ne_nil hne
  haveI : Inhabited {x : Value × List Int // x ∈ items} := ⟨⟨x0, by rw [hx0]; simp⟩⟩
  obtain ⟨enc, henc⟩ : ∃ enc : {x : Value × List Int // x ∈ items} → Value, enc = fun x => x.1.1 := ⟨_, rfl⟩
  obtain ⟨cf, hcf⟩ : ∃ cf : {x : Value × List Int // x ∈ items} → {x : Value × List Int // x ∈ items} → Int, cf = fun x y => cmpL x.1.2 y.1.2 := ⟨_, rfl⟩
  obtain ⟨d, hd⟩ : ∃ d : Array {x : Value × List Int // x ∈ items}, d = items.attach.toArray := ⟨_, rfl⟩
  have hds : d.size = items.length := by rw [hd]; simp
  have hlt : ∀ x y, ltOf cf x y = decide (cmpL x.1.2 y.1.2 < 0) := fun x y => by rw [hcf]; rfl
  have hswo : SWO (ltOf cf) := ⟨fun x => by rw [hlt, cmpL_refl]; rfl, fun x y z h1 h2 => by
    rw [hlt, decide_eq_true_eq] at *; exact cmpL_lt _ _ _ h1 h2, fun x y z h1 h2 => by
    rw [hlt, decide_eq_false_iff_not] at *; exact cmpL_ge _ _ _ h1 h2⟩
  have hgl : g < W.heap.size := (hov.own_lt rfl).1
  have hoiw : ∀ x : {x : Value × List Int // x ∈ items}, ∀ W', Fr [g] W W' → RI W' x.1.1 x.1.2 := by
    intro x W' hfr
    obtain ⟨B', h⟩ := hoi x.1 x.2
    refine (h.keepG fun g' hg' => ?_).rv
    refine hfr.block g' (h.own_lt hg').1 ?_
    simp only [List.mem_cons, List.not_mem_nil, or_false]
    rintro rfl
    exact OV.own_ne h hov (by decide) hg' rfl
  have hH : Go.Sort.Holds enc W g 0 d := by
    intro j hj
    rw [hds] at hj
    have hdj : d[j]! = ⟨items[j], List.getElem_mem _⟩ := by
      rw [getElem!_pos d j (by rw [hds]; exact hj)]
      simp [hd]
    refine ⟨?_, ?_⟩
    · obtain ⟨A, c, e, _, _, hc⟩ := OV.rv hov
      simp only [Value.slice.injEq] at e
      obtain ⟨ad, hA, _, hcc⟩ := hc j (by simpa using hj)
      rw [← e.1] at hA
      simp only [Option.some.injEq] at hA
      subst hA
      have e2 : (⟨g, 0, none⟩ : Addr).add j = ⟨g, j, none⟩ := by unfold Addr.add; split <;> simp_all
      rw [e2] at hcc
      rw [Nat.zero_add, hcc, hdj, henc]
      simp [hj]
    · obtain ⟨c, hc, _⟩ := hov.block_ (g := g) rfl
      exact frozen_of_row W g _ c _ hc
  have hcmp : CmpReads Tryz.prog 28 #[] enc cf g 0 d.size W := by
    intro m os dk hs x y
    have hfr := sw_heap enc W g m dk os
    have := cmpC_any x.1.1 y.1.1 x.1.2 y.1.2 (sortWorld enc W g 0 m dk os) (hoiw x _ hfr) (hoiw y _ hfr)
    rw [henc] at this
    rw [henc, hcf]
    show Calls Tryz.prog 28 #[x.1.1, y.1.1] _ _
    exact Calls.mono this fun e w' h => ⟨h.1, 0, h.2.symm⟩
  have h1 : OneCell enc := by
    intro x
    obtain ⟨B', h⟩ := hoi x.1 x.2
    obtain ⟨A, c, e, _⟩ := OV.rv h
    rw [henc]
    show x.1.1.oneCell' = true
    rw [e]; rfl
  have eg : ∀ args w, (callFunc 28 args).run Tryz.prog w = .ok (.enter 28 args) w := enters_of Tryz.func28 (by kernel_rfl) rfl
  have hcon := Any.slices_SortFunc sortD enc h1 cf hswo 28 #[] g 0 cap d W eg hcmp.lays hH hgl (by rw [hds]; have := hov.2; simp at this; omega)
  rw [hds] at hcon
  change Calls Tryz.prog 27 _ _ _ at hcon
  refine hcon.mono ?_
  rintro e w' ⟨rfl, d', m, os, ⟨hp1, -, hp3⟩, hs, rfl⟩
  rw [hds] at hp1
  have hex : ∀ (a : Array {x : Value × List Int // x ∈ items}), a.size = items.length → a.extract 0 items.length = a := fun a ha => by rw [← ha]; simp
  rw [hex d' hp1, hex d hds] at hp3
  have hfr := sw_heap enc W g m d' os
  refine ⟨rfl, d'.toList.map (·.1), ?_, ?_, ?_, ?_, hfr⟩
  · have := hp3.map (fun x : {x : Value × List Int // x ∈ items} => x.1)
    refine this.trans (List.Perm.of_eq ?_)
    rw [hd]; exact List.attach_map_subtype_val items
  · intro i j a b hij ha hb
    simp only [List.getElem?_map, Option.map_eq_some_iff] at ha hb
    obtain ⟨a', ha', rfl⟩ := ha
    obtain ⟨b', hb', rfl⟩ := hb
    rw [Array.getElem?_toList] at ha' hb'
    obtain ⟨hi, rfl⟩ := Array.getElem?_eq_some_iff.1 ha'
    obtain ⟨hj, rfl⟩ := Array.getElem?_eq_some_iff.1 hb'
    have := hs i j (Nat.zero_le _) hij (by omega)
    rw [hlt, decide_eq_false_iff_not, getElem!_pos d' j hj, getElem!_pos d' i hi] at this
    exact this
  · refine ⟨some ⟨g, 0, none⟩, cap, by simp [hp1], ?_, by have := hov.2; simpa [hp1] using this, fun k hk => ⟨_, rfl, by have := hfr.size; show g < _; omega, ?_⟩⟩
    · obtain ⟨A, c, e, hl, _⟩ := OV.rv hov
      simp only [Value.slice.injEq] at e
      simp [hp1] at hl ⊢; omega
    · have hk' : k < d'.size := by simpa using hk
      have e2 : ∀ g k : Nat, (⟨g, 0, none⟩ : Addr).add k = ⟨g, k, none⟩ := fun g k => by unfold Addr.add; split <;> simp_all
      rw [e2, sw_cell enc W g m d d' os hH (by omega) hk', getElem!_pos d' k hk', henc]
      simp [hk']
  · intro x hx
    obtain ⟨y, _, rfl⟩ := List.mem_map.1 hx
    exact hoiw y _ hfr
end Go.Proofs.YtjfggodnfoknfaaGreatDoor

