/- The iterator read of package proof. -/
import Derived.Test.YteamhbohgoclgaaGreatDoorR34
set_option maxRecDepth 100000
set_option maxHeartbeats 16000000
namespace Go.Proofs.YteamhbohgoclgaaGreatDoor
open Go.RowKit Go.Shelf
attribute [local go_sem] Oper.semAt_some

def wi (s : List UInt8) : Int × Int := if smE s = 3 then (0, 4) else if smE s ≠ 0 \/ wv s < -1048576 \/ 1048576 < wv s then (0, 2) else (wv s, 0)
def RdPre (w0 : World) (hx : Nat) (v : Value) (W : World) : Prop := BL W hx 55 [v] /\ Below w0.heap.size w0 W
def RdK (w0 : World) (hx : Nat) (A C : World) : Prop := Below w0.heap.size A C /\ C.heap[hx]? = A.heap[hx]?
theorem RdPre.keep {w0 : World} {hx : Nat} {v : Value} {A C : World} (h : RdPre w0 hx v A) (hk : RdK w0 hx A C) : RdPre w0 hx v C := ⟨hk.2.trans h.1, h.2.trans hk.1⟩
theorem RdPre.below {w0 : World} {hx : Nat} {v : Value} {A C : World} (h : RdPre w0 hx v A) (hb : Below A.heap.size A C) : RdPre w0 hx v C := ⟨h.1.bel hb, h.2.trans (hb.mono h.2.size)⟩
theorem map_split {α β : Type} {f : α -> β} {l : List α} {j : Nat} {x : α} (h : l[j]? = some x) : (l.map f).take j ++ f x :: (l.map f).drop (j + 1) = l.map f := by
 obtain ⟨h1, rfl⟩ := List.getElem?_eq_some_iff.1 h
 have := List.take_append_drop j (l.map f)
 conv => rhs; rw [<- this]
 rw [List.drop_eq_getElem_cons (show j < (l.map f).length by simpa using h1), List.getElem_map]
theorem map_take1 {α β : Type} {f : α -> β} {l : List α} {j : Nat} {x : α} (h : l[j]? = some x) : (l.map f).take (j + 1) = (l.map f).take j ++ [f x] := by
 obtain ⟨h1, rfl⟩ := List.getElem?_eq_some_iff.1 h
 rw [List.take_succ_eq_append_getElem (by simpa using h1)]; simp
theorem pRead1_iter (w0 : World) (hx : Nat) (v : Value) (ws : List (List UInt8)) (hrs : RS w0 v ws) (hlv : LV w0) (hl : ws.length <= 100000) (hs : ∀ s ∈ ws, s.length <= 1000000) :
   IterC Tryz.prog 106 #[.pointer (some ⟨hx, 0, none⟩)] (fun x : Int × Int => #[.int .i64 x.1, .int .i64 x.2]) (fun pre x _ => ∃ rest, pre ++ x :: rest = ws.map wi)
     (fun A B => Below A.heap.size A B) (RdK w0 hx) (fun xs => xs = ws.map wi) (fun _ => True) (RdPre w0 hx v) := by
 intro N l J Jx W hpre hJ hJx hY h0
 have HJ := Hd hJ
 have HY := Hd hY
 have HP := Hd hpre
 have HLv := Hd hlv
 have HSl := Hd hs
 obtain ⟨A, c, rfl, hlc, hcell⟩ := hrs.open_
 have HC := Hd hcell
 have x0 : W.cell? ⟨hx, 0, none⟩ = some (.slice A ws.length c) := hpre.1.cell 0
 clear hJ hY hpre hJx hrs hlv hcell hs
 refine callsIn_of_wp Tryz.func106 rfl trivial ?_ rfl
 simp only [Tryz.ntmps106, List.size_toArray, List.length_cons, List.length_nil, Nat.reduceAdd, Nat.reduceSub, Array.replicate_succ, Array.replicate_zero, List.push_toArray, List.append_toArray, List.nil_append, List.cons_append]
 gi_wp2
 clear x0
 gi_loopg [9] ws.length (fun k i wr => ∃ j : Nat, j + k = ws.length /\ i = .int .i64 j /\ Hid (J ((ws.map wi).take j) wr) /\ Hid (RdPre w0 hx (.slice A ws.length c) wr))
 case atStart => exact ⟨0, by omega, rfl, h0, HP.out⟩
 case round =>
   obtain ⟨j, hjk, rfl, hj, hpr⟩ := hrel
   by_cases hlt : j < ws.length
   · obtain ⟨ad, rfl, hab, hcl⟩ := HC.out j hlt
     have hxs : ws[j]? = some (ws.getD j []) := by rw [List.getD_eq_getElem?_getD, List.getElem?_eq_getElem hlt]; rfl
     have hcw := (hpr.out.2.cell (p := ad.add j) (by rw [block_of_add]; exact hab)).trans hcl
     have HSp := Hd (map_split (f := wi) hxs)
     have HT1 := Hd (map_take1 (f := wi) hxs)
     have hsl := HSl.out _ (List.mem_of_getElem? hxs)
     have HSm := Hd (iSmall_any (ws.getD j []) wr hsl (HLv.out.below hpr.out.2))
     have HWi : Hid (wi (ws.getD j []) = if smE (ws.getD j []) = 3 then (0, 4) else if smE (ws.getD j []) ≠ 0 \/ wv (ws.getD j []) < -1048576 \/ 1048576 < wv (ws.getD j []) then (0, 2) else (wv (ws.getD j []), 0)) := rfl
     generalize wi (ws.getD j []) = xi at *
     generalize smE (ws.getD j []) = se at *
     generalize wv (ws.getD j []) = z at *
     obtain ⟨T, hT⟩ : ∃ T : ByteArray, strV (ws.getD j []) = .string T := ⟨_, rfl⟩
     rw [hT] at HSm hcw
     obtain ⟨n0, hn0⟩ : ∃ n0, n0 = (if se = 0 then z else 0) := ⟨_, rfl⟩
     rw [<- hn0] at HSm
     have HN0 := Hd hn0
     clear hcl hxs hsl hT hn0
     gi_wp2_with fail
     refine ⟨trivial, fun h => (by simp [Fence.wide] at h), (callsIn_wide.2 HSm.out).mono ?_⟩
     rintro e W2 ⟨rfl, hb2⟩
     have HJ1 := Hd (HJ.out _ wr W2 hj.out hb2)
     have HP1 := Hd (hpr.out.below hb2)
     clear hb2 hcw HSm
     have HYx := Hd (HY.out _ xi W2 HJ1.out ⟨_, HSp.out⟩)
     by_cases h3 : se = 3
     · obtain rfl : xi = (0, 4) := by rw [HWi.out, if_pos h3]
       obtain rfl : n0 = 0 := by rw [HN0.out, if_neg (by omega)]
       have t1 : (se == 3) = true := by simpa using h3
       clear h3
       obtain ⟨fn, tmps, assign, body, hy, hRd⟩ := HYx.out
       dsimp only at hy hRd
       have HR := Hd hRd
       clear hRd HYx HWi HN0
       gi_wp2_with fail
       refine ⟨fun h => (by simp [Fence.wide] at h), HR.out.mono ?_⟩
       rintro e W3 (⟨rfl, hJ2, hk2⟩ | ⟨rfl, hJx2⟩)
       · have HJ2 := Hd hJ2
         have HK2 := Hd hk2
         clear hJ2 hk2 hy
         gi_wp2
         gi_roundg (gk - 1)
         case measure => omega
         case rel => exact ⟨j + 1, by omega, by go_num, by rw [HT1.out]; exact HJ2.out, HP1.out.keep HK2.out⟩
       · clear hy
         gi_wp2
         refine bodyPost_ret (results_none rfl _ _ _) rfl ?_
         exact ⟨⟨_, rfl⟩, .inr ⟨_, trivial, hJx2⟩⟩
     have t1 : (se == 3) = false := by simpa using h3
     by_cases h0' : se = 0
     · obtain rfl : n0 = z := by rw [HN0.out, if_pos h0']
       have t2 : (se != 0) = false := by simpa using h0'
       by_cases hz1 : n0 < -1048576
       · obtain rfl : xi = (0, 2) := by rw [HWi.out, if_neg h3, if_pos (.inr (.inl hz1))]
         clear h3 h0'
         obtain ⟨fn, tmps, assign, body, hy, hRd⟩ := HYx.out
         dsimp only at hy hRd
         have HR := Hd hRd
         clear hRd HYx HWi HN0
         gi_wp2_with fail
         refine ⟨fun h => (by simp [Fence.wide] at h), HR.out.mono ?_⟩
         rintro e W3 (⟨rfl, hJ2, hk2⟩ | ⟨rfl, hJx2⟩)
         · have HJ2 := Hd hJ2
           have HK2 := Hd hk2
           clear hJ2 hk2 hy
           gi_wp2
           gi_roundg (gk - 1)
           case measure => omega
           case rel => exact ⟨j + 1, by omega, by go_num, by rw [HT1.out]; exact HJ2.out, HP1.out.keep HK2.out⟩
         · clear hy
           gi_wp2
           refine bodyPost_ret (results_none rfl _ _ _) rfl ?_
           exact ⟨⟨_, rfl⟩, .inr ⟨_, trivial, hJx2⟩⟩
       by_cases hz2 : (1048576 : Int) < n0
       · obtain rfl : xi = (0, 2) := by rw [HWi.out, if_neg h3, if_pos (.inr (.inr hz2))]
         clear h3 h0'
         obtain ⟨fn, tmps, assign, body, hy, hRd⟩ := HYx.out
         dsimp only at hy hRd
         have HR := Hd hRd
         clear hRd HYx HWi HN0
         gi_wp2_with fail
         refine ⟨fun h => (by simp [Fence.wide] at h), HR.out.mono ?_⟩
         rintro e W3 (⟨rfl, hJ2, hk2⟩ | ⟨rfl, hJx2⟩)
         · have HJ2 := Hd hJ2
           have HK2 := Hd hk2
           clear hJ2 hk2 hy
           gi_wp2
           gi_roundg (gk - 1)
           case measure => omega
           case rel => exact ⟨j + 1, by omega, by go_num, by rw [HT1.out]; exact HJ2.out, HP1.out.keep HK2.out⟩
         · clear hy
           gi_wp2
           refine bodyPost_ret (results_none rfl _ _ _) rfl ?_
           exact ⟨⟨_, rfl⟩, .inr ⟨_, trivial, hJx2⟩⟩
       obtain rfl : xi = (n0, 0) := by rw [HWi.out, if_neg h3, if_neg (by omega)]
       subst h0'
       clear h3 t1 t2
       obtain ⟨fn, tmps, assign, body, hy, hRd⟩ := HYx.out
       dsimp only at hy hRd
       have HR := Hd hRd
       clear hRd HYx HWi HN0
       gi_wp2_with fail
       refine ⟨fun h => (by simp [Fence.wide] at h), HR.out.mono ?_⟩
       rintro e W3 (⟨rfl, hJ2, hk2⟩ | ⟨rfl, hJx2⟩)
       · have HJ2 := Hd hJ2
         have HK2 := Hd hk2
         clear hJ2 hk2 hy
         gi_wp2
         gi_roundg (gk - 1)
         case measure => omega
         case rel => exact ⟨j + 1, by omega, by go_num, by rw [HT1.out]; exact HJ2.out, HP1.out.keep HK2.out⟩
       · clear hy
         gi_wp2
         refine bodyPost_ret (results_none rfl _ _ _) rfl ?_
         exact ⟨⟨_, rfl⟩, .inr ⟨_, trivial, hJx2⟩⟩
     · obtain rfl : xi = (0, 2) := by rw [HWi.out, if_neg h3, if_pos (.inl h0')]
       have t2 : (se != 0) = true := by simpa using h0'
       clear h3 h0'
       obtain ⟨fn, tmps, assign, body, hy, hRd⟩ := HYx.out
       dsimp only at hy hRd
       have HR := Hd hRd
       clear hRd HYx HWi HN0
       gi_wp2_with fail
       refine ⟨fun h => (by simp [Fence.wide] at h), HR.out.mono ?_⟩
       rintro e W3 (⟨rfl, hJ2, hk2⟩ | ⟨rfl, hJx2⟩)
       · have HJ2 := Hd hJ2
         have HK2 := Hd hk2
         clear hJ2 hk2 hy
         gi_wp2
         gi_roundg (gk - 1)
         case measure => omega
         case rel => exact ⟨j + 1, by omega, by go_num, by rw [HT1.out]; exact HJ2.out, HP1.out.keep HK2.out⟩
       · clear hy
         gi_wp2
         refine bodyPost_ret (results_none rfl _ _ _) rfl ?_
         exact ⟨⟨_, rfl⟩, .inr ⟨_, trivial, hJx2⟩⟩
   · have hje : j = ws.length := by omega
     have HF : Hid (J (ws.map wi) wr) := by
       have h := hj.out
       rwa [List.take_of_length_le (by simp; omega)] at h
     clear hj
     gi_wp2
     refine bodyPost_end (results_none rfl _ _ _) rfl ?_
     exact ⟨⟨_, rfl⟩, .inl ⟨_, rfl, HF.out⟩⟩
end Go.Proofs.YteamhbohgoclgaaGreatDoor

namespace Go.Proofs.YteamhbohgoclgaaGreatDoor
open Go.RowKit Go.Shelf
attribute [local go_sem] Oper.semAt_some

theorem ovLoopP {w : World} {B : Nat} {e : TypeId} {v : Value} {us : List Value} (h : OV w B e v us) {l : Nat} {r : Loop} (hl : w.heap[l]? = some (.loop r)) (o : Obj) : OV (w.putObj l o) B e v us := by
 refine ⟨h.1.kept (grownBy_putObj' w l o) ?_, h.2⟩
 rcases h.1.2 with ⟨rfl, _⟩ | ⟨g, cap, cur, rfl, _, hh, _⟩
 · exact .inl rfl
 · right
   intro e'
   simp only [Value.ownBlock, Option.some.injEq] at e'
   subst e'
   rw [hl] at hh; cases hh
theorem ovBoxP {w w' : World} {B b : Nat} {e T : TypeId} {v : Value} {us xs : List Value} (h : BL w b T xs) (h' : OV w B e v us) (hne : e ≠ T) (hg : w.grownBy w' v.ownBlock) : BL w' b T xs := by
 refine h.grown hg ?_
 intro hv
 obtain ⟨cur, hc⟩ := h'.blk hv
 unfold BL at h
 rw [h] at hc
 injection hc with hc
 injection hc with _ hc
 exact hne hc.symm
theorem smS3 (s : List UInt8) : smE s = 3 ↔ canB s = false := by
 have h := chk3 (s := s)
 unfold smE
 constructor
 · intro e
   by_cases h0 : chkE s ≠ 0
   · rw [if_pos h0] at e
     rw [e] at h
     cases hc : canB s with
     | true => rw [hc] at h; cases h
     | false => rfl
   · rw [if_neg h0] at e
     split at e <;> cases e
 · intro e
   rw [e] at h
   have h1 : chkE s = 3 := by simpa using h
   rw [if_pos (by omega), h1]
theorem wi4 (s : List UInt8) : (wi s).2 = 4 ↔ canB s = false := by
 rw [<- smS3]
 unfold wi
 by_cases h : smE s = 3
 · rw [if_pos h]; exact ⟨fun _ => h, fun _ => rfl⟩
 · rw [if_neg h]
   refine ⟨fun e => ?_, fun e => absurd e h⟩
   split at e <;> cases e
theorem wi_cases (s : List UInt8) : (wi s).2 = 4 \/ (wi s).2 = 2 \/ (wi s).2 = 0 := by
 unfold wi
 split
 · exact .inl rfl
 · split
   · exact .inr (.inl rfl)
   · exact .inr (.inr rfl)
theorem wi0 {s : List UInt8} (hc : canB s = true) : ((wi s).2 = 0 ↔ smallB s = true) /\ ((wi s).2 = 0 -> (wi s).1 = wv s) := by
 have h3 : ¬ smE s = 3 := fun e => by rw [(smS3 s).1 e] at hc; cases hc
 unfold wi
 rw [if_neg h3]
 by_cases h : smE s ≠ 0 \/ wv s < -1048576 \/ 1048576 < wv s
 · rw [if_pos h]
   refine ⟨⟨(fun e => by cases e), fun e => ?_⟩, (fun e => by cases e)⟩
   rcases h with h | h
   · rw [sm_not hc h] at e; cases e
   · unfold smallB at e; simp at e; omega
 · rw [if_neg h]
   refine ⟨⟨fun _ => ?_, fun _ => rfl⟩, fun _ => rfl⟩
   unfold smallB; simp; omega
def wrE (pre : List (Int × Int)) : Int := if pre.all (fun x => x.2 == 0) then 0 else 2
theorem nums_4 {ws : List (List UInt8)} (h : ∃ x ∈ ws.map wi, x.2 = 4) : numsE ws = 4 := by
 obtain ⟨x, hx, h4⟩ := h
 obtain ⟨s, hs, rfl⟩ := List.mem_map.1 hx
 unfold numsE
 rw [if_pos]
 rw [List.all_eq_false]
 exact ⟨s, hs, by rw [(wi4 s).1 h4]; decide⟩
theorem nums_w {ws : List (List UInt8)} (h : ∀ x ∈ ws.map wi, x.2 = 0 \/ x.2 = 2) : numsE ws = wrE (ws.map wi) /\ (numsE ws = 0 -> (ws.map wi).map Prod.fst = numsV ws) := by
 have hc : ∀ s ∈ ws, canB s = true := fun s hs => by
   have := h _ (List.mem_map.2 ⟨s, hs, rfl⟩)
   cases e : canB s with
   | true => rfl
   | false => have := (wi4 s).2 e; omega
 have hall : ws.all canB = true := List.all_eq_true.2 hc
 have hsm : (ws.map wi).all (fun x => x.2 == 0) = ws.all smallB := by
   clear h hall
   induction ws with
   | nil => rfl
   | cons s r ih =>
     rw [List.map_cons, List.all_cons, List.all_cons, ih (fun t ht => hc t (by simp [ht]))]
     congr 1
     have := (wi0 (hc s (by simp))).1
     cases e : smallB s with
     | true => rw [beq_iff_eq]; exact this.2 e
     | false => rw [beq_eq_false_iff_ne]; intro e0; rw [this.1 e0] at e; cases e
 have hE : numsE ws = wrE (ws.map wi) := by
   unfold numsE wrE
   rw [if_neg (by rw [hall]; decide), hsm]
   show (if ws.all smallB = false then (2 : Int) else 0) = _
   cases ws.all smallB <;> rfl
 refine ⟨hE, fun h0 => ?_⟩
 rw [hE] at h0
 unfold wrE at h0
 have hz : (ws.map wi).all (fun x => x.2 == 0) = true := by
   cases e : (ws.map wi).all (fun x => x.2 == 0) with
   | true => rfl
   | false => rw [e] at h0; cases h0
 rw [List.map_map]
 unfold numsV
 refine List.map_congr_left fun s hs => ?_
 have := List.all_eq_true.1 hz _ (List.mem_map.2 ⟨s, hs, rfl⟩)
 exact (wi0 (hc s hs)).2 (by simpa using this)
def PsI (w : World) (v0 : Value) (pre : List (Int × Int)) (W : World) : Prop :=
 BL W w.heap.size 37 [.slice none 0 0] /\ BL W (w.heap.size + 1) 27 [.int .i64 0] /\ (∃ v, BL W (w.heap.size + 2) 37 [v] /\ OV W (w.heap.size + 5) 3 v (pre.map fun x => .int .i64 x.1)) /\
   BL W (w.heap.size + 3) 27 [.int .i64 (wrE pre)] /\ BL W (w.heap.size + 4) 55 [v0] /\ (∀ x ∈ pre, x.2 = 0 \/ x.2 = 2) /\ Below w.heap.size w W
def PsX (w : World) (its : List (Int × Int)) (c : Code) (_pre : List (Int × Int)) (W : World) : Prop :=
 c = .ret /\ BL W w.heap.size 37 [.slice none 0 0] /\ BL W (w.heap.size + 1) 27 [.int .i64 4] /\ (∃ x ∈ its, x.2 = 4) /\ Below w.heap.size w W
theorem pRead_any (v : Value) (w : World) (hv : ∃ A n c, v = .slice A n c) : Calls Tryz.prog 75 #[v] w fun e w' =>
   e = .returned (.func (.func 106) #[] #[.pointer (some ⟨w.heap.size, 0, none⟩)]) /\ w.alloc (.cells #[v] 55) = w' := by
 obtain ⟨A, n, c, rfl⟩ := hv
 go_enter Tryz.func75, Tryz.ntmps75
 go_wp2
 go_ret
 exact ⟨rfl, rfl⟩
theorem pParsed_any (v : Value) (ws : List (List UInt8)) (w : World) (hv : RS w v ws) (hlv : LV w) (hl : ws.length <= 100000) (hs : ∀ s ∈ ws, s.length <= 1000000) :
   Calls Tryz.prog 43 #[v] w fun e w' => ∃ vo, e = .returned (.tuple #[vo, .int .i64 (numsE ws)]) /\ (numsE ws = 0 -> OI w' w.heap.size vo (numsV ws)) /\ Below w.heap.size w w' := by
 obtain ⟨i0, hi, hz0, hz1, hz2⟩ := info_parts int_info
 have HIt := Hd (fun hx => pRead1_iter w hx v ws hv hlv hl hs)
 obtain ⟨A0, c0, rfl, -⟩ := hv.open_
 have H4 : Hid ((∃ x ∈ ws.map wi, x.2 = 4) -> numsE ws = 4) := nums_4
 have HWr : Hid ((∀ x ∈ ws.map wi, x.2 = 0 \/ x.2 = 2) -> numsE ws = wrE (ws.map wi) /\ (numsE ws = 0 -> (ws.map wi).map Prod.fst = numsV ws)) := nums_w
 have HCs : Hid (∀ x ∈ ws.map wi, x.2 = 4 \/ x.2 = 2 \/ x.2 = 0) := fun x hx => by
   obtain ⟨s, -, rfl⟩ := List.mem_map.1 hx
   exact wi_cases s
 have HLn : Hid ((ws.map wi).length <= 100000) := by show _ <= _; simpa using hl
 have HRd : Hid (∀ W, Calls Tryz.prog 75 #[.slice A0 ws.length c0] W fun e w' => e = .returned (.func (.func 106) #[] #[.pointer (some ⟨W.heap.size, 0, none⟩)]) /\ W.alloc (.cells #[.slice A0 ws.length c0] 55) = w') := fun W => pRead_any _ W ⟨_, _, _, rfl⟩
 generalize ws.map wi = its at *
 generalize numsE ws = E at *
 generalize numsV ws = V at *
 obtain ⟨v0, hv0⟩ : ∃ v0, v0 = Value.slice A0 ws.length c0 := ⟨_, rfl⟩
 obtain ⟨W4, hW4⟩ : ∃ W4, W4 = ((((w.alloc (.cells #[.slice none 0 0] 37)).alloc (.cells #[.int .i64 0] 27)).alloc (.cells #[.slice none 0 0] 37)).alloc (.cells #[.int .i64 0] 27)).alloc (.cells #[.slice A0 ws.length c0] 55) := ⟨_, rfl⟩
 have hs4 : W4.heap.size = w.heap.size + 5 := by rw [hW4]; simp
 have hb4 : Below w.heap.size w W4 := by rw [hW4]; exact ((((below_alloc w _).alloc (by simp) _).alloc (by simp; omega) _).alloc (by simp; omega) _).alloc (by simp; omega) _
 have hI4 : PsI w v0 [] W4 := by
   have hA := BL.new' w #[.slice none 0 0] 37
   have hB := BL.new' (w.alloc (.cells #[.slice none 0 0] 37)) #[.int .i64 0] 27
   have hC := BL.new' ((w.alloc (.cells #[.slice none 0 0] 37)).alloc (.cells #[.int .i64 0] 27)) #[.slice none 0 0] 37
   have hD := BL.new' (((w.alloc (.cells #[.slice none 0 0] 37)).alloc (.cells #[.int .i64 0] 27)).alloc (.cells #[.slice none 0 0] 37)) #[.int .i64 0] 27
   have hE := BL.new' ((((w.alloc (.cells #[.slice none 0 0] 37)).alloc (.cells #[.int .i64 0] 27)).alloc (.cells #[.slice none 0 0] 37)).alloc (.cells #[.int .i64 0] 27)) #[.slice A0 ws.length c0] 55
   simp only [World.size_alloc, Nat.add_assoc] at hB hC hD hE
   rw [<- hv0] at hE
   refine ⟨?_, ?_, ⟨.slice none 0 0, ?_, OV.nil_ _ _ _⟩, ?_, ?_, fun x hx => by simp at hx, hb4⟩
   · rw [hW4]; exact (((hA.alloc _).alloc _).alloc _).alloc _
   · rw [hW4]; exact ((hB.alloc _).alloc _).alloc _
   · rw [hW4]; exact (hC.alloc _).alloc _
   · rw [hW4]; exact hD.alloc _
   · rw [hW4, <- hv0]; exact hE
 have HW4 := Hd hW4
 have HS4 := Hd hs4
 have HI4 := Hd hI4
 have HV0 := Hd hv0
 rw [<- hv0] at HIt
 clear hv hlv hl hs hW4 hs4 hb4 hI4 hv0
 refine (callsIn_wide (n := 3)).1 ?_
 refine callsIn_of_wp_marks Tryz.func43 rfl trivial ?_ rfl
 refine wpIn_wide.2 ?_
 simp only [Tryz.ntmps43, List.size_toArray, List.length_cons, List.length_nil, Nat.reduceAdd, Nat.reduceSub, Array.replicate_succ, Array.replicate_zero, List.push_toArray, List.append_toArray, List.nil_append, List.cons_append]
 go_wp2_with fail
 refine (HRd.out _).mono ?_
 rintro e w1 ⟨rfl, rfl⟩
 go_wp2_with fail
 rw [<- HW4.out]
 have HSz := HS4.out
 refine (wpIn_wide (n := 3)).1 ?_
 refine wpIn_rangeFunc_iter (gf := 106) (lb := #[.pointer (some ⟨w.heap.size + 4, 0, none⟩)]) rfl (enters_of Tryz.func106 (by kernel_rfl) rfl)
   (HIt.out (w.heap.size + 4)) (fun _ => rfl) ?hR ?hKt ?hKp (fun _ _ _ _ _ h _ => h) (PsI w v0) (PsX w its) ?hI ?hIx ?hIR ?hIxR ?hpre ?h0
   (fun x => { tmps := #[.slice A0 ws.length c0, undef, .pointer (some ⟨w.heap.size, 0, none⟩), .pointer (some ⟨w.heap.size + 1, 0, none⟩), .pointer (some ⟨w.heap.size + 2, 0, none⟩), .pointer (some ⟨w.heap.size + 3, 0, none⟩), .int .i64 x.1, .int .i64 x.2, .slice A0 ws.length c0, .func (.func 106) #[] #[.pointer (some ⟨w.heap.size + 4, 0, none⟩)], .int .i64 x.1, .int .i64 x.2, undef, undef, undef, undef, undef, undef, undef, undef, undef, undef, undef, undef, undef, undef], defers := [] }) ?assign ?body ?done ?stop
 case hR => intro A B h hs; exact ⟨h.block _ (by omega), h.block _ (by omega)⟩
 case hKt => rintro A B C ⟨h1, h2⟩ ⟨h3, h4⟩; exact ⟨h1.trans h3, h4.trans h2⟩
 case hKp =>
   intro W r o hl
   exact ⟨below_putLoop (Below.refl _ _) (by omega) o, World.putObj_heap_other (by omega)⟩
 case hI =>
   rintro pre W r o ⟨h1, h2, ⟨v, h3, h4⟩, h5, h6, h7, h8⟩ hl
   exact ⟨h1.putLoop hl o, h2.putLoop hl o, ⟨v, h3.putLoop hl o, ovLoopP h4 hl o⟩, h5.putLoop hl o, h6.putLoop hl o, h7, below_putLoop h8 (by omega) o⟩
 case hIx =>
   rintro c pre W r o ⟨h0, h1, h2, h3, h4⟩ hl
   exact ⟨h0, h1.putLoop hl o, h2.putLoop hl o, h3, below_putLoop h4 (by omega) o⟩
 case hIR =>
   rintro pre A B ⟨h1, h2, ⟨v, h3, h4⟩, h5, h6, h7, h8⟩ hr
   exact ⟨h1.bel hr, h2.bel hr, ⟨v, h3.bel hr, h4.below hr⟩, h5.bel hr, h6.bel hr, h7, h8.trans (hr.mono h8.size)⟩
 case hIxR =>
   rintro c pre A B ⟨h0, h1, h2, h3, h4⟩ hr
   exact ⟨h0, h1.bel hr, h2.bel hr, h3, h4.trans (hr.mono h4.size)⟩
 case hpre =>
   intro r
   obtain ⟨-, -, -, -, h6, -, h8⟩ := HI4.out
   have hb := (below_alloc W4 (.deferred (some []))).alloc (by simp) (.loop r)
   exact ⟨h6.bel hb, h8.trans (hb.mono h8.size)⟩
 case h0 =>
   intro r
   obtain ⟨h1, h2, ⟨v, h3, h4⟩, h5, h6, h7, h8⟩ := HI4.out
   have hb := (below_alloc W4 (.deferred (some []))).alloc (by simp) (.loop r)
   exact ⟨h1.bel hb, h2.bel hb, ⟨v, h3.bel hb, h4.below hb⟩, h5.bel hb, h6.bel hb, h7, h8.trans (hb.mono h8.size)⟩
 case assign =>
   intro l x W K hK
   gi_wp2
   exact hK
 case body =>
   rintro l pre ⟨n, ee⟩ W r ⟨h1, h2, ⟨v, h3, h4⟩, h5, h6, h7, h8⟩ ⟨rest, hrest⟩ hl hd
   have he : ee = 4 \/ ee = 2 \/ ee = 0 := HCs.out (n, ee) (by rw [<- hrest]; simp)
   dsimp only
   clear HSz
   rcases he with rfl | rfl | rfl
   · have c2 := h1.cell 0
     have c3 := h2.cell 0
     have f2 := h1.frozen 0
     have f3 := h2.frozen 0
     have H1 := Hd h1
     have H2 := Hd h2
     have H8 := Hd h8
     have HLo := Hd hl
     have HDe := Hd hd
     have Hm : Hid ((n, (4 : Int)) ∈ its) := by show _ ∈ _; rw [<- hrest]; simp
     clear h1 h2 h3 h4 h5 h6 h7 h8 hrest hl hd
     gi_wp2
     have hn4 := HS4.out
     refine ⟨⟨?_, ?_⟩, rfl, (H1.out.set 0 _).set_other (by simp) _, (H2.out.set_other (by simp) _).set 0 _, ⟨(n, 4), Hm.out, rfl⟩, (H8.out.setCell (p := ⟨w.heap.size, 0, none⟩) (by simp) _).setCell (p := ⟨w.heap.size + 1, 0, none⟩) (by simp) _⟩
     · rw [heap_setCell_other _ _ _ _ (by simp; omega), heap_setCell_other _ _ _ _ (by simp; omega)]
     · rw [heap_setCell_other _ _ _ _ (by simp; omega), heap_setCell_other _ _ _ _ (by simp; omega)]
   · have c5 := h5.cell 0
     have f5 := h5.frozen 0
     have c4' := h3.cell 0
     have b1 : BL (W.setCell ⟨w.heap.size + 3, 0, none⟩ (.int .i64 2)) w.heap.size 37 [.slice none 0 0] := h1.set_other (by simp) _
     have b2 : BL (W.setCell ⟨w.heap.size + 3, 0, none⟩ (.int .i64 2)) (w.heap.size + 1) 27 [.int .i64 0] := h2.set_other (by simp) _
     have b3 : BL (W.setCell ⟨w.heap.size + 3, 0, none⟩ (.int .i64 2)) (w.heap.size + 2) 37 [v] := h3.set_other (by simp) _
     have b4 : OV (W.setCell ⟨w.heap.size + 3, 0, none⟩ (.int .i64 2)) (w.heap.size + 5) 3 v (pre.map fun x => .int .i64 x.1) := OV.keptBox h4 h5 (by decide) (grownBy_setCell' W (w.heap.size + 3) _)
     have b5 : BL (W.setCell ⟨w.heap.size + 3, 0, none⟩ (.int .i64 2)) (w.heap.size + 3) 27 [.int .i64 2] := h5.set 0 _
     have b6 : BL (W.setCell ⟨w.heap.size + 3, 0, none⟩ (.int .i64 2)) (w.heap.size + 4) 55 [v0] := h6.set_other (by simp) _
     have b8 : Below w.heap.size w (W.setCell ⟨w.heap.size + 3, 0, none⟩ (.int .i64 2)) := h8.setCell (p := ⟨w.heap.size + 3, 0, none⟩) (by simp) _
     have HBW : Hid (Below w.heap.size W (W.setCell ⟨w.heap.size + 3, 0, none⟩ (.int .i64 2))) := (Below.refl _ _).setCell (p := ⟨w.heap.size + 3, 0, none⟩) (by simp) _
     have bk : ∀ k, k ≠ w.heap.size + 3 -> (W.setCell ⟨w.heap.size + 3, 0, none⟩ (.int .i64 2)).heap[k]? = W.heap[k]? := fun k hk => heap_setCell_other _ _ _ _ hk
     have bl := hl
     have bd := hd
     have bs : (W.setCell ⟨w.heap.size + 3, 0, none⟩ (.int .i64 2)).heap.size = W.heap.size := by simp
     have HWe : Hid (wrE (pre ++ [(n, 2)]) = 2) := by show _ = _; unfold wrE; simp
     have hx1 : Hid (RV ((W.setCell ⟨w.heap.size + 3, 0, none⟩ (.int .i64 2)).alloc (.cells #[.int .i64 n] 3)) (.slice (some ⟨W.heap.size, 0, none⟩) 1 1) [.int .i64 n]) := by
       have h := RV.ones (W.setCell ⟨w.heap.size + 3, 0, none⟩ (.int .i64 2)) (.int .i64 n) 3
       rw [bs] at h
       exact h
     have ho := Hd (b4.below (below_alloc (W.setCell ⟨w.heap.size + 3, 0, none⟩ (.int .i64 2)) (.cells #[.int .i64 n] 3)))
     have hone := Hd (one_ones (u := .int .i64 n) rfl)
     have H1 := Hd (b1.bel (below_alloc (W.setCell ⟨w.heap.size + 3, 0, none⟩ (.int .i64 2)) (.cells #[.int .i64 n] 3)))
     have H2 := Hd (b2.bel (below_alloc (W.setCell ⟨w.heap.size + 3, 0, none⟩ (.int .i64 2)) (.cells #[.int .i64 n] 3)))
     have H3 := Hd (b3.bel (below_alloc (W.setCell ⟨w.heap.size + 3, 0, none⟩ (.int .i64 2)) (.cells #[.int .i64 n] 3)))
     have H5 := Hd (b5.bel (below_alloc (W.setCell ⟨w.heap.size + 3, 0, none⟩ (.int .i64 2)) (.cells #[.int .i64 n] 3)))
     have H6 := Hd (b6.bel (below_alloc (W.setCell ⟨w.heap.size + 3, 0, none⟩ (.int .i64 2)) (.cells #[.int .i64 n] 3)))
     have H8 := Hd b8
     have HLo := Hd bl
     have HDe := Hd bd
     have HVs := Hd bs
     have HVk := Hd bk
     have c4 : (W.setCell ⟨w.heap.size + 3, 0, none⟩ (.int .i64 2)).cell? ⟨w.heap.size + 2, 0, none⟩ = some v := b3.cell 0
     have hplen : pre.length <= 100000 := by have h := congrArg List.length hrest; have := HLn.out; simp at h; omega
     have hsV : w.heap.size + 5 <= W.heap.size := h6.lt
     clear b1 b2 b3 b4 b5 b6 b8 bl bd bs bk
     gi_wp2_with (gi_at_builtin; refine wpListIn_appendV _ rfl _ _ _ rfl 3 i0 _ 8 Tryz.underlying37 hi hz0 hz1 hz2 rfl (w.heap.size + 5) _ _ rfl ho.out _ _ rfl hx1.out hone.out (by first | omega | (simp; done) | (simp; omega)) (by first | omega | (simp; done) | (simp; omega)) (by first | omega | (simp; done) | (simp; omega)) ?_; intro v2 V2 hown1 hg1 hat1; obtain ⟨g2, cap2, rfl, hgB, hgl⟩ := OV.shape hown1 (by simp); have HO := Hd hown1; have HG := Hd hg1; have hbx := ovBoxP H3.out ho.out (by decide) hg1; have HBX := Hd hbx; have hcb : V2.cell? ⟨w.heap.size + 2, 0, none⟩ = some v := hbx.cell 0; have hfb := hbx.frozen 0; have hgz := hg1.size; clear hown1 hg1 hat1 hbx)
     have hset := grownBy_setCell' V2 (w.heap.size + 2) (.slice (some ⟨g2, 0, none⟩) (pre.length + 1) cap2)
     have hn4 := HS4.out
     have hWl : W4.heap.size + 1 < W.heap.size := lt_of_block hl
     have hVs := HVs.out
     have step : ∀ k o, k < W.heap.size -> k ≠ w.heap.size + 2 -> k ≠ w.heap.size + 3 -> W.heap[k]? = some o -> o.isCells = false -> (V2.setCell ⟨w.heap.size + 2, 0, none⟩ (.slice (some ⟨g2, 0, none⟩) (pre.length + 1) cap2)).heap[k]? = W.heap[k]? := by
       intro k o hk hk1 hk2 ho1 ho2
       have hal : ((W.setCell ⟨w.heap.size + 3, 0, none⟩ (.int .i64 2)).alloc (.cells #[.int .i64 n] 3)).heap[k]? = (W.setCell ⟨w.heap.size + 3, 0, none⟩ (.int .i64 2)).heap[k]? := Below.heap_alloc _ _ _ (by omega)
       refine (hset.block k (by have := HG.out.size; simp at this; omega) (by simp; exact hk1)).trans ((HG.out.block k (by simp; omega) ?_).trans (hal.trans (HVk.out k hk2)))
       intro hv
       obtain ⟨cur, hc⟩ := ho.out.blk hv.symm
       rw [hal, HVk.out k hk2, ho1] at hc
       injection hc with hc
       subst hc
       cases ho2
     have hx6 : BL (V2.setCell ⟨w.heap.size + 2, 0, none⟩ (.slice (some ⟨g2, 0, none⟩) (pre.length + 1) cap2)) (w.heap.size + 4) 55 [v0] := (ovBoxP H6.out ho.out (by decide) HG.out).set_other (by simp) _
     have hbel : Below w.heap.size w V2 := below_own ((H8.out.trans ((below_alloc (W.setCell ⟨w.heap.size + 3, 0, none⟩ (.int .i64 2)) _).mono H8.out.size))) (by simp; have := H8.out.size; omega) (ho.out.mono (by omega)) HG.out
     have hbW : Below w.heap.size W (V2.setCell ⟨w.heap.size + 2, 0, none⟩ (.slice (some ⟨g2, 0, none⟩) (pre.length + 1) cap2)) := by
       have hW1 : Below w.heap.size W (W.setCell ⟨w.heap.size + 3, 0, none⟩ (.int .i64 2)) := HBW.out
       exact (below_own ((hW1.trans ((below_alloc (W.setCell ⟨w.heap.size + 3, 0, none⟩ (.int .i64 2)) _).mono (by omega)))) (by simp; omega) (ho.out.mono (by omega)) HG.out).setCell (p := ⟨w.heap.size + 2, 0, none⟩) (by simp) _
     refine ⟨⟨step _ _ (by omega) (by omega) (by omega) hd rfl, step _ _ hWl (by omega) (by omega) hl rfl⟩, ⟨hbW, hx6.trans h6.symm⟩, ?_, ?_, ⟨_, HBX.out.set 0 _, ?_⟩, ?_, hx6, ?_, ?_⟩
     · exact (ovBoxP H1.out ho.out (by decide) HG.out).set_other (by simp) _
     · exact (ovBoxP H2.out ho.out (by decide) HG.out).set_other (by simp) _
     · have h := OV.keptBox HO.out HBX.out (by decide) hset
       simpa using h
     · have h := (ovBoxP H5.out ho.out (by decide) HG.out).set_other (b := w.heap.size + 3) (a := ⟨w.heap.size + 2, 0, none⟩) (by simp) (.slice (some ⟨g2, 0, none⟩) (pre.length + 1) cap2)
       rw [HWe.out]; exact h
     · intro x hx
       rcases List.mem_append.1 hx with hx | hx
       · exact h7 x hx
       · simp at hx; subst hx; simp
     · exact hbel.setCell (p := ⟨w.heap.size + 2, 0, none⟩) (by simp) _
   · have b1 := h1
     have b2 := h2
     have b3 := h3
     have b4 := h4
     have b5 := h5
     have b6 := h6
     have b8 := h8
     have HBW : Hid (Below w.heap.size W W) := Below.refl _ _
     have bk : ∀ k, k ≠ w.heap.size + 3 -> W.heap[k]? = W.heap[k]? := fun k _ => rfl
     have bl := hl
     have bd := hd
     have bs : W.heap.size = W.heap.size := rfl
     have HWe : Hid (wrE (pre ++ [(n, 0)]) = wrE pre) := by
       show _ = _
       unfold wrE
       rw [List.all_append]
       cases pre.all (fun x => x.2 == 0) <;> rfl
     generalize wrE pre = we at *
     have hx1 := Hd (RV.ones W (.int .i64 n) 3)
     have ho := Hd (b4.below (below_alloc W (.cells #[.int .i64 n] 3)))
     have hone := Hd (one_ones (u := .int .i64 n) rfl)
     have H1 := Hd (b1.bel (below_alloc W (.cells #[.int .i64 n] 3)))
     have H2 := Hd (b2.bel (below_alloc W (.cells #[.int .i64 n] 3)))
     have H3 := Hd (b3.bel (below_alloc W (.cells #[.int .i64 n] 3)))
     have H5 := Hd (b5.bel (below_alloc W (.cells #[.int .i64 n] 3)))
     have H6 := Hd (b6.bel (below_alloc W (.cells #[.int .i64 n] 3)))
     have H8 := Hd b8
     have HLo := Hd bl
     have HDe := Hd bd
     have HVs := Hd bs
     have c4 : W.cell? ⟨w.heap.size + 2, 0, none⟩ = some v := b3.cell 0
     have hplen : pre.length <= 100000 := by have h := congrArg List.length hrest; have := HLn.out; simp at h; omega
     have hsV : w.heap.size + 5 <= W.heap.size := b6.lt
     clear b1 b2 b3 b4 b5 b6 b8 bl bd bs bk
     gi_wp2_with (gi_at_builtin; refine wpListIn_appendV _ rfl _ _ _ rfl 3 i0 _ 8 Tryz.underlying37 hi hz0 hz1 hz2 rfl (w.heap.size + 5) _ _ rfl ho.out _ _ rfl hx1.out hone.out (by first | omega | (simp; done) | (simp; omega)) (by first | omega | (simp; done) | (simp; omega)) (by first | omega | (simp; done) | (simp; omega)) ?_; intro v2 V2 hown1 hg1 hat1; obtain ⟨g2, cap2, rfl, hgB, hgl⟩ := OV.shape hown1 (by simp); have HO := Hd hown1; have HG := Hd hg1; have hbx := ovBoxP H3.out ho.out (by decide) hg1; have HBX := Hd hbx; have hcb : V2.cell? ⟨w.heap.size + 2, 0, none⟩ = some v := hbx.cell 0; have hfb := hbx.frozen 0; have hgz := hg1.size; clear hown1 hg1 hat1 hbx)
     have hset := grownBy_setCell' V2 (w.heap.size + 2) (.slice (some ⟨g2, 0, none⟩) (pre.length + 1) cap2)
     have hn4 := HS4.out
     have hWl : W4.heap.size + 1 < W.heap.size := lt_of_block hl
     have hVs := HVs.out
     have step : ∀ k o, k < W.heap.size -> k ≠ w.heap.size + 2 -> k ≠ w.heap.size + 3 -> W.heap[k]? = some o -> o.isCells = false -> (V2.setCell ⟨w.heap.size + 2, 0, none⟩ (.slice (some ⟨g2, 0, none⟩) (pre.length + 1) cap2)).heap[k]? = W.heap[k]? := by
       intro k o hk hk1 hk2 ho1 ho2
       have hal : (W.alloc (.cells #[.int .i64 n] 3)).heap[k]? = W.heap[k]? := Below.heap_alloc _ _ _ (by omega)
       refine (hset.block k (by have := HG.out.size; simp at this; omega) (by simp; exact hk1)).trans ((HG.out.block k (by simp; omega) ?_).trans hal)
       intro hv
       obtain ⟨cur, hc⟩ := ho.out.blk hv.symm
       rw [hal, ho1] at hc
       injection hc with hc
       subst hc
       cases ho2
     have hx6 : BL (V2.setCell ⟨w.heap.size + 2, 0, none⟩ (.slice (some ⟨g2, 0, none⟩) (pre.length + 1) cap2)) (w.heap.size + 4) 55 [v0] := (ovBoxP H6.out ho.out (by decide) HG.out).set_other (by simp) _
     have hbel : Below w.heap.size w V2 := below_own ((H8.out.trans ((below_alloc W _).mono H8.out.size))) (by simp; have := H8.out.size; omega) (ho.out.mono (by omega)) HG.out
     have hbW : Below w.heap.size W (V2.setCell ⟨w.heap.size + 2, 0, none⟩ (.slice (some ⟨g2, 0, none⟩) (pre.length + 1) cap2)) := by
       have hW1 : Below w.heap.size W W := HBW.out
       exact (below_own ((hW1.trans ((below_alloc W _).mono (by omega)))) (by simp; omega) (ho.out.mono (by omega)) HG.out).setCell (p := ⟨w.heap.size + 2, 0, none⟩) (by simp) _
     refine ⟨⟨step _ _ (by omega) (by omega) (by omega) hd rfl, step _ _ hWl (by omega) (by omega) hl rfl⟩, ⟨hbW, hx6.trans h6.symm⟩, ?_, ?_, ⟨_, HBX.out.set 0 _, ?_⟩, ?_, hx6, ?_, ?_⟩
     · exact (ovBoxP H1.out ho.out (by decide) HG.out).set_other (by simp) _
     · exact (ovBoxP H2.out ho.out (by decide) HG.out).set_other (by simp) _
     · have h := OV.keptBox HO.out HBX.out (by decide) hset
       simpa using h
     · have h := (ovBoxP H5.out ho.out (by decide) HG.out).set_other (b := w.heap.size + 3) (a := ⟨w.heap.size + 2, 0, none⟩) (by simp) (.slice (some ⟨g2, 0, none⟩) (pre.length + 1) cap2)
       rw [HWe.out]; exact h
     · intro x hx
       rcases List.mem_append.1 hx with hx | hx
       · exact h7 x hx
       · simp at hx; subst hx; simp
     · exact hbel.setCell (p := ⟨w.heap.size + 2, 0, none⟩) (by simp) _
 case done =>
   rintro xs W rfl ⟨h1, h2, ⟨v, h3, h4⟩, h5, h6, h7, h8⟩ hD
   obtain ⟨hE, hV⟩ := HWr.out h7
   have hrv := h4.rv
   obtain ⟨Av, cv, rfl, -⟩ := id hrv
   have HRv := Hd hrv
   simp only [List.length_map] at h3 h4 HRv
   clear hrv
   have c2 := h1.cell 0
   have c3 := h2.cell 0
   have c4 := h3.cell 0
   have c5 := h5.cell 0
   have f2 := h1.frozen 0
   have f3 := h2.frozen 0
   have H1 := Hd h1
   have H2 := Hd h2
   have H3 := Hd h3
   have H4' := Hd h4
   have H5 := Hd h5
   have H8 := Hd h8
   have HD := Hd hD
   have HV := Hd hV
   have HEw : Hid (E = wrE xs) := hE
   have hw : wrE xs = 0 \/ wrE xs = 2 := by unfold wrE; split <;> simp
   clear h1 h2 h3 h4 h5 h6 h7 h8 hD hE hV HSz
   generalize wrE xs = we at *
   rcases hw with rfl | rfl
   · have hR := HEw.out
     obtain rfl : E = 0 := hR
     go_wp2
     have hn4 := HS4.out
     have o1 := OV.keptBox H4'.out H1.out (by decide) (grownBy_setCell' W w.heap.size (.slice Av xs.length cv))
     have o2 := OV.keptBox o1 (H2.out.set_other (a := ⟨w.heap.size, 0, none⟩) (by simp) (.slice Av xs.length cv)) (by decide) (grownBy_setCell' _ (w.heap.size + 1) (.int .i64 0))
     refine leaves_marks (B := w.heap.size) [_] _ ⟨⟨_, rfl, by omega, ((heap_setCell_other _ _ _ _ (by simp; omega)).trans (heap_setCell_other _ _ _ _ (by simp; omega))).trans HD.out, by simp⟩, trivial⟩ fun w' hs => ⟨_, results_cell2 rfl _ _ _ _ _ _ _ _ rfl rfl Tryz.underlying37 Tryz.underlying27 rfl rfl ((((H1.out.set 0 _).set_other (by simp) _).shut hs).cell 0) ((((H2.out.set_other (by simp) _).set 0 _).shut hs).cell 0), ⟨_, rfl, ?_, Below.shut ((H8.out.setCell (p := ⟨w.heap.size, 0, none⟩) (by simp) _).setCell (p := ⟨w.heap.size + 1, 0, none⟩) (by simp) _) hs⟩⟩
     have h := (o2.shut hs).mono (show w.heap.size <= w.heap.size + 5 by omega)
     show OV _ _ _ _ _
     rw [<- HV.out (by first | trivial | rfl), List.map_map]
     exact h
   · have hR := HEw.out
     obtain rfl : E = 2 := hR
     go_wp2_with fail
     go_region
     all_goals
       have hn4 := HS4.out
       go_wp2
       have e1 : BL ((W.setCell ⟨w.heap.size, 0, none⟩ (.slice none 0 0)).setCell ⟨w.heap.size + 1, 0, none⟩ (.int .i64 2)).drew w.heap.size 37 [.slice none 0 0] := (H1.out.set 0 (.slice none 0 0)).set_other (a := ⟨w.heap.size + 1, 0, none⟩) (by simp) (.int .i64 2)
       have e2 : BL ((W.setCell ⟨w.heap.size, 0, none⟩ (.slice none 0 0)).setCell ⟨w.heap.size + 1, 0, none⟩ (.int .i64 2)).drew (w.heap.size + 1) 27 [.int .i64 2] := (H2.out.set_other (a := ⟨w.heap.size, 0, none⟩) (by simp) (.slice none 0 0)).set 0 (.int .i64 2)
       have e8 : Below w.heap.size w ((W.setCell ⟨w.heap.size, 0, none⟩ (.slice none 0 0)).setCell ⟨w.heap.size + 1, 0, none⟩ (.int .i64 2)).drew := ((H8.out.setCell (p := ⟨w.heap.size, 0, none⟩) (by simp) _).setCell (p := ⟨w.heap.size + 1, 0, none⟩) (by simp) _).drew
       refine leaves_marks (B := w.heap.size) [_] _ ⟨⟨_, rfl, by omega, ((heap_setCell_other _ _ _ _ (by simp; omega)).trans (heap_setCell_other _ _ _ _ (by simp; omega))).trans HD.out, by simp⟩, trivial⟩ fun w' hs => ⟨_, results_cell2 rfl _ _ _ _ _ _ _ _ rfl rfl Tryz.underlying37 Tryz.underlying27 rfl rfl ((BL.shut e1 hs).cell 0) ((BL.shut e2 hs).cell 0), by first | exact ⟨⟨_, rfl⟩, Below.shut e8 hs⟩ | exact ⟨_, rfl, (fun h => absurd h (by decide)), Below.shut e8 hs⟩⟩
 case stop =>
   rintro c pre W - ⟨rfl, k1, k2, k3, k4⟩ hD
   clear HSz
   have hR := H4.out k3
   subst hR
   have K1 := Hd k1
   have K2 := Hd k2
   have K4 := Hd k4
   have HD := Hd hD
   clear k1 k2 k3 k4 hD
   refine wpIn_wide.2 ?_
   go_wp2
   refine leaves_marks (B := w.heap.size) [_] _ ⟨⟨_, rfl, by have := HS4.out; omega, HD.out, by simp⟩, trivial⟩ fun w' hs => ⟨_, results_cell2 rfl _ _ _ _ _ _ _ _ rfl rfl Tryz.underlying37 Tryz.underlying27 rfl rfl ((K1.out.shut hs).cell 0) ((K2.out.shut hs).cell 0), ⟨_, rfl⟩, Below.shut K4.out hs⟩
end Go.Proofs.YteamhbohgoclgaaGreatDoor

namespace Go.Proofs.YteamhbohgoclgaaGreatDoor
open Go.RowKit Go.Shelf
theorem bd_memS {S : Int} {l : List Int} (h : Bd S l) : ∀ z ∈ l, -S <= z /\ z <= S := fun z hz => by
 obtain ⟨j, hj, rfl⟩ := List.getElem_of_mem hz
 have := h j
 rwa [List.getD_eq_getElem?_getD, List.getElem?_eq_getElem hj] at this
theorem facE_G : ∀ (p : Int) (l : List Int), (∀ z ∈ l, z <= 1048576) -> facG p l = facE p l
 | _, [], _ => rfl
 | p, f :: r, h => by
   have h1 := h f (by simp)
   have ih := facE_G f r fun z hz => h z (by simp [hz])
   unfold facG facE
   by_cases c : f < 2
   · rw [if_pos (.inl c), if_pos c]
   · rw [if_neg (by omega), if_neg c, ih]
theorem check_fits {l : List Int} {m : Nat} (h : l.length = m) (hb : Bd 1048576 l) (hm1 : 1 <= m) (hm : m <= 12) : checkE l m = 0 := by
 unfold checkE
 rw [if_neg (by omega), if_neg (by omega), if_pos]
 rw [List.all_eq_true]
 intro z hz
 exact (inB_iff z).2 (bd_memS hb z hz)
theorem form_right {m i : Nat} {l : List Int} (hi : i < 9) (hm1 : 1 <= m) (hm : m <= 12) (hf : fillE m (kq i) (kn i) (kb i) (kf i) l = 0) (hb : Bd 1048576 l) :
   rightE m (kq i) (kn i) (kl i) (fQ (kq i) l) (fQ (kn i) (l1L (kq i) l)) (fF (kf i) (l2L (kq i) (kn i) l)) =
   formA m i (fQ (kq i) l) (fQ (kn i) (l1L (kq i) l)) (fA m (kb i) (kf i) (l2L (kq i) (kn i) l)) (fB m (kb i) (kf i) (l2L (kq i) (kn i) l)) (fF (kf i) (l2L (kq i) (kn i) l)) := by
 have hb1 := hb.l1 (by decide) (kq i)
 have hb2 : Bd 1048576 (l2L (kq i) (kn i) l) := hb1.l1 (by decide) (kn i)
 have hA := hb2.fA (by decide) m (kb i) (kf i)
 have hB := hb2.fB (by decide) m (kb i) (kf i)
 have hF := hb2.fF (by decide) (kf i)
 have hlA : kf i = false -> (fA m (kb i) (kf i) (l2L (kq i) (kn i) l)).length = m /\ (kb i = true -> (fB m (kb i) (kf i) (l2L (kq i) (kn i) l)).length = m) := fun h => fill_len hf h
 have haf : ka i = !kf i := by unfold ka kf; rfl
 have hbf : kf i = true -> kb i = false := fun h => by
   unfold kf at h; unfold kb
   have : i = 8 := by simpa using h
   subst this; rfl
 have nA : ka i = false -> fA m (kb i) (kf i) (l2L (kq i) (kn i) l) = [] := fun h => by
   rw [haf] at h
   have h' : kf i = true := by simpa using h
   unfold fA; rw [h']; rfl
 have nB : kb i = false -> fB m (kb i) (kf i) (l2L (kq i) (kn i) l) = [] := fun h => by unfold fB; rw [h]; cases kf i <;> rfl
 have nF : kf i = false -> fF (kf i) (l2L (kq i) (kn i) l) = [] := fun h => by unfold fF; rw [h]; rfl
 have nQ : kq i = false -> fQ (kq i) l = 0 := fun h => by unfold fQ; rw [h]; rfl
 have nN : kn i = false -> fQ (kn i) (l1L (kq i) l) = 0 := fun h => by unfold fQ; rw [h]; rfl
 generalize fQ (kq i) l = Q at *
 generalize fQ (kn i) (l1L (kq i) l) = N at *
 generalize fA m (kb i) (kf i) (l2L (kq i) (kn i) l) = a at *
 generalize fB m (kb i) (kf i) (l2L (kq i) (kn i) l) = b at *
 generalize fF (kf i) (l2L (kq i) (kn i) l) = f at *
 unfold formA
 rw [if_neg (by omega), Int.toNat_natCast]
 unfold formG rightE
 by_cases h1 : (kq i = true /\ ¬ (0 <= Q /\ Q < m)) \/ (kn i = true /\ (N < kl i \/ 12 < N))
 · rw [if_pos h1, if_pos h1]
 rw [if_neg h1, if_neg h1]
 have last : ¬ ((kq i = false /\ Q ≠ 0) \/ (kn i = false /\ N ≠ 0) \/ (ka i = false /\ a ≠ []) \/ (kb i = false /\ b ≠ []) \/ (kf i = false /\ f ≠ [])) := by
   rintro (⟨h, h2⟩ | ⟨h, h2⟩ | ⟨h, h2⟩ | ⟨h, h2⟩ | ⟨h, h2⟩)
   · exact h2 (nQ h)
   · exact h2 (nN h)
   · exact h2 (nA h)
   · exact h2 (nB h)
   · exact h2 (nF h)
 have c1 : ¬ (ka i = true /\ checkE a m ≠ 0) := fun ⟨h, h2⟩ => h2 (check_fits (hlA (by rw [haf] at h; simpa using h)).1 hA hm1 hm)
 have c2 : ¬ (kb i = true /\ checkE b m ≠ 0) := fun ⟨h, h2⟩ => by
   have hk : kf i = false := by
     cases hh : kf i
     · rfl
     · rw [hbf hh] at h; cases h
   exact h2 (check_fits ((hlA hk).2 h) hB hm1 hm)
 rw [if_neg c1, if_neg c2, if_neg last]
 have hG := facE_G 0 f fun z hz => (bd_memS hF z hz).2
 cases hk : kf i
 · rw [nF hk, if_neg (by simp; omega), if_neg (by simp)]; rfl
 · unfold facNG
   by_cases c5 : (f.length : Int) > m - 1
   · rw [if_pos c5, if_pos ⟨rfl, by rw [if_pos c5]; simp⟩, if_pos c5]
   · rw [if_neg c5, hG, if_neg c5]
     by_cases c6 : facE 0 f = 0
     · rw [c6]; simp
     · rw [if_pos ⟨rfl, c6⟩]
theorem IndexT_any (va : Value) (xs : List (List UInt8)) (v : List UInt8) (w : World) (ha : RS w va xs) (hl : xs.length <= 100000) :
   Calls Tryz.prog 48 #[va, strV v] w fun e w' => e = .returned (.int .i64 (idxG v xs)) /\ w = w' := by
 obtain ⟨A, c, rfl, hlc, hcell⟩ := ha.open_
 have HA := Hd hcell
 clear hcell ha
 obtain ⟨V, hV⟩ : ∃ V, V = ByteArray.mk v.toArray := ⟨_, rfl⟩
 have hVl : V.toList = v := by rw [hV]; exact ByteArray.toList_mk v
 have hVs : strV v = .string V := by rw [hV]; rfl
 have HVl := Hd hVl
 rw [hVs]
 clear hV hVl hVs
 go_enter Tryz.func48, Tryz.ntmps48
 go_wp2
 go_loop [8] (fun i => ∃ k : Nat, k <= xs.length /\ i = .int .i64 k /\ Hid (idxG v xs = if idxG v (xs.drop k) < 0 then -1 else idxG v (xs.drop k) + k)) (fun i => xs.length - (intOf i).toNat)
 case atStart => exact ⟨0, Nat.zero_le _, rfl, by show _ = _; have := idxG_lo v xs; simp only [List.drop_zero]; split <;> omega⟩
 case round =>
   obtain ⟨k, hk, rfl, he⟩ := hrel
   by_cases hlt : k < xs.length
   · obtain ⟨ad, rfl, _, hcl⟩ := HA.out k hlt
     have hx : xs[k]? = some (xs.getD k []) := by rw [List.getD_eq_getElem?_getD, List.getElem?_eq_getElem hlt]; rfl
     have HDr := Hd (dropL_at hx)
     have h := he.out
     rw [HDr.out] at h
     generalize xs.getD k [] = z at *
     obtain ⟨Z, hZ⟩ : ∃ Z, Z = ByteArray.mk z.toArray := ⟨_, rfl⟩
     have hZl : Z.toList = z := by rw [hZ]; exact ByteArray.toList_mk z
     have hZs : strV z = .string Z := by rw [hZ]; rfl
     rw [hZs] at hcl
     clear HA hZ hZs hx
     by_cases hb : v = z
     · simp only [idxG, hb, if_true] at h
       have HR : Hid ((k : Int) = idxG v xs) := by show _ = _; rw [hb, h]; simp
       have t1 : (V.toList == Z.toList) = true := by rw [HVl.out, hZl, hb]; simp
       clear h hb hZl he
       go_wp2
       go_ret
       exact ⟨ret_i HR.out, rfl⟩
     · simp only [idxG, hb, if_false] at h
       have hlo := idxG_lo v (xs.drop (k + 1))
       have HN : Hid (idxG v xs = if idxG v (xs.drop (k + 1)) < 0 then -1 else idxG v (xs.drop (k + 1)) + (k + 1 : Nat)) := by
         show _ = _
         rw [h]
         by_cases c1 : idxG v (xs.drop (k + 1)) < 0
         · simp [c1]
         · rw [if_neg c1, if_neg c1, if_neg (by omega)]; push_cast; omega
       have t1 : (V.toList == Z.toList) = false := by rw [HVl.out, hZl]; simpa using hb
       clear h hlo hb hZl he
       go_wp2
       go_round
       case rel => exact ⟨k + 1, by omega, by go_num, HN.out⟩
       case measure => simp [intOf]; omega
   · have h := he.out
     rw [List.drop_of_length_le (by omega)] at h
     have HR : Hid ((-1 : Int) = idxG v xs) := by show _ = _; rw [h]; simp [idxG]
     clear h he
     go_wp2
     go_ret
     exact ⟨ret_i HR.out, rfl⟩
end Go.Proofs.YteamhbohgoclgaaGreatDoor
