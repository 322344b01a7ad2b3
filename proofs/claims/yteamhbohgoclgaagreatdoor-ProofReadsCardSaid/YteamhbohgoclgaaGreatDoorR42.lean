/- Contracts of the law's claims and of the reference's SameAll. -/
import Derived.Test.YteamhbohgoclgaaGreatDoorR41
import Derived.Test.YteamhbohgoclgaaGreatDoorR38
import Derived.Test.YteamhbohgoclgaaGreatDoorR19
import Derived.HandedShaped
import Derived.LaidMore
import Derived.Lay
import Derived.Stop.Joined
import Derived.Stop.LaidErr
import Derived.Test.YteamhbohgoclgaaGreatDoorCards
import Derived.Test.YteamhbohgoclgaaGreatDoorTie
set_option maxRecDepth 100000
set_option maxHeartbeats 16000000
namespace Go.Proofs.YteamhbohgoclgaaGreatDoor
open Go.RowKit Go.Shelf

def RC6 (T : TypeId) (B : Nat) (W0 w : World) (v : Value) (xs : List Clm) : Prop := ∃ rows, OC T w B v rows /\ rows.length = xs.length /\ ∀ (j : Nat) (r : List Value) (x : Clm), rows[j]? = some r -> xs[j]? = some x -> CW W0 r x
theorem RC6.below {T : TypeId} {W0 w w' : World} {B : Nat} {v : Value} {xs : List Clm} (h : RC6 T B W0 w v xs) (hb : Below w.heap.size w w') : RC6 T B W0 w' v xs := by
 obtain ⟨rows, h1, h2, h3⟩ := h
 exact ⟨rows, h1.below hb, h2, h3⟩
theorem RC6.nil_ (T : TypeId) (B : Nat) (W0 w : World) : RC6 T B W0 w (.slice none 0 0) [] := ⟨[], OC.nil_ T w B, rfl, fun j r x hr => by simp at hr⟩
theorem RC6.shape {T : TypeId} {W0 w : World} {B : Nat} {v : Value} {xs : List Clm} (h : RC6 T B W0 w v xs) : ∃ A c, v = .slice A xs.length c := by
 obtain ⟨rows, h1, h2, h3⟩ := h
 rw [<- h2]; exact h1.shape
theorem RC6.own {T : TypeId} {W0 w : World} {B : Nat} {v : Value} {xs : List Clm} (h : RC6 T B W0 w v xs) {k : Nat} (hk : v.ownBlock = some k) : B <= k /\ k < w.heap.size := by
 obtain ⟨rows, h1, h2, h3⟩ := h
 obtain ⟨_, _, h4, h5⟩ := h1.block_ hk
 exact ⟨h4, h5⟩
theorem CW.below {W W' : World} {r : List Value} {x : Clm} (h : CW W r x) (hb : Below W.heap.size W W') : CW W' r x := by
 obtain ⟨va, vb, vf, e, h1, h2, h3⟩ := h
 exact ⟨va, vb, vf, e, h1.below hb, h2.below hb, h3.below hb⟩
theorem RC6.push {P : Program} {T : TypeId} (W0 w : World) (t ty : TypeId) (i : TypeInfo) (z : Value) (bytes : Nat) (ht : P.underlying t = some (.slice T)) (hi : P.info? T = some i) (hz : i.zero = some z)
   (hsize : i.size = 6) (hby : i.bytes = bytes) (hby2 : bytes <= 1000) (hzs : z.cells.size = 6) (B : Nat) (v : Value) (xs : List Clm) (hown : RC6 T B W0 w v xs) (kk Q N : Int) (Aa Ab Af : Option Addr) (na nb nf ca cb cf : Nat) (x : Clm)
   (hx : CW W0 [.int .i64 kk, .int .i64 Q, .int .i64 N, .slice Aa na ca, .slice Ab nb cb, .slice Af nf cf] x) (hl : xs.length <= 999999) (hB : B <= w.heap.size) :
   ∃ g cap w', (Builtin.append_ #[t, t] ty #[v, .slice (some ⟨w.heap.size, 0, none⟩) 1 1]).run P (w.alloc (.cells #[.int .i64 kk, .int .i64 Q, .int .i64 N, .slice Aa na ca, .slice Ab nb cb, .slice Af nf cf] T)) = .ok (.slice (some ⟨g, 0, none⟩) (xs.length + 1) cap) w' /\
     RC6 T B W0 w' (.slice (some ⟨g, 0, none⟩) (xs.length + 1) cap) (xs ++ [x]) /\ (w.alloc (.cells #[.int .i64 kk, .int .i64 Q, .int .i64 N, .slice Aa na ca, .slice Ab nb cb, .slice Af nf cf] T)).grownBy w' v.ownBlock := by
 obtain ⟨rows, h1, h2, h3⟩ := hown
 have hm : (xs.length + 1) * bytes <= 1000001 * 1000 := Nat.mul_le_mul (by omega) hby2
 have hal := below_alloc w (.cells #[.int .i64 kk, .int .i64 Q, .int .i64 N, .slice Aa na ca, .slice Ab nb cb, .slice Af nf cf] T)
 have h1' := h1.below hal
 obtain ⟨v', w', hrun, ho, hg, -, hat⟩ := run_append_own_at (P := P) (w.alloc (.cells #[.int .i64 kk, .int .i64 Q, .int .i64 N, .slice Aa na ca, .slice Ab nb cb, .slice Af nf cf] T)) B t ty T i z 6 bytes ht hi hz hsize hby hzs (by omega) v rows.length rows.flatten h1'.1
   ⟨w.heap.size, 0, none⟩ 1 1 [.int .i64 kk, .int .i64 Q, .int .i64 N, .slice Aa na ca, .slice Ab nb cb, .slice Af nf cf] rfl (fun j u hu => by
     have h := (BL.new' w #[.int .i64 kk, .int .i64 Q, .int .i64 N, .slice Aa na ca, .slice Ab nb cb, .slice Af nf cf] T).cell j
     have e : (⟨w.heap.size, 0, none⟩ : Addr).add j = ⟨w.heap.size, j, none⟩ := by unfold Addr.add; split <;> simp_all
     rw [e, h]; exact hu) (fun u hu => by
     simp only [List.mem_cons, List.not_mem_nil, or_false] at hu
     rcases hu with rfl | rfl | rfl | rfl | rfl | rfl <;> rfl) (by unfold maxLen; omega) (by rw [h2]; omega) (by simp; omega)
 have hown' : OC T w' B v' (rows ++ [[.int .i64 kk, .int .i64 Q, .int .i64 N, .slice Aa na ca, .slice Ab nb cb, .slice Af nf cf]]) := by
   refine ⟨by simpa using ho, by simp; omega, fun r hr => ?_⟩
   rcases List.mem_append.1 hr with h | h
   · exact h1.2.2 r h
   · simp only [List.mem_singleton] at h; subst h; rfl
 obtain ⟨g, cap, rfl, -, -⟩ := hown'.shape1 (by simp)
 simp only [List.length_append, List.length_singleton, h2] at hrun hown'
 refine ⟨g, cap, w', hrun, ⟨_, hown', by simp [h2], fun j r y hr hy => ?_⟩, hg⟩
 by_cases hj : j < xs.length
 · rw [List.getElem?_append_left (by omega)] at hr
   rw [List.getElem?_append_left hj] at hy
   exact h3 j r y hr hy
 · have hj2 : j = xs.length := by
     have := (List.getElem?_eq_some_iff.1 hy).1
     simp at this; omega
   subst hj2
   rw [List.getElem?_append_right (by omega), h2, Nat.sub_self] at hr
   rw [List.getElem?_append_right (by omega), Nat.sub_self] at hy
   simp only [List.getElem?_cons_zero, Option.some.injEq] at hr hy
   subst hr; subst hy
   exact hx
theorem RC6.cv {T : TypeId} {W0 w : World} {B : Nat} {v : Value} {xs : List Clm} (h : RC6 T B W0 w v xs) (hb : Below W0.heap.size W0 w) : CV w v xs := by
 obtain ⟨rows, h1, h2, h3⟩ := h
 have hlen := h1.2.1
 have hgt := flat6_get rows h1.2.2
 have hfl := flat6_len rows h1.2.2
 rcases h1.1.2 with ⟨rfl, hn⟩ | ⟨g, cap, cur, rfl, _, hh, hc, _⟩
 · exact ⟨none, 0, by rw [<- h2, hn], by omega, by omega, fun k hk => by omega⟩
 · refine ⟨_, cap, by rw [h2], by omega, by omega, fun k hk => ?_⟩
   obtain ⟨va, vb, vf, hr, ra, rb, rf⟩ := (h3 k _ _ (List.getElem?_eq_getElem (by omega)) (List.getElem?_eq_getElem hk)).below hb
   have hr' : rows[k]? = some [.int .i64 xs[k].1, .int .i64 xs[k].2.1, .int .i64 xs[k].2.2.1, va, vb, vf] := by rw [List.getElem?_eq_getElem (by omega), hr]
   have hce : ∀ j, j < 6 -> w.cell? ⟨g, k * 6 + j, none⟩ = [Value.int .i64 xs[k].1, .int .i64 xs[k].2.1, .int .i64 xs[k].2.2.1, va, vb, vf][j]? := fun j hj => by
     rw [h1.1.cellAt _ (by omega)]
     exact hgt k _ hr' j hj
   refine ⟨⟨g, 0, none⟩, xs[k], va, vb, vf, rfl, lt_of_block hh, List.getElem?_eq_getElem hk, ?_, ?_, ?_, ?_, ?_, ?_, ra, rb, rf⟩
   · rw [addr_addz]; exact hce 0 (by omega)
   · rw [addr_addz]; exact hce 1 (by omega)
   · rw [addr_addz]; exact hce 2 (by omega)
   · rw [addr_addz]; exact hce 3 (by omega)
   · rw [addr_addz]; exact hce 4 (by omega)
   · rw [addr_addz]; exact hce 5 (by omega)
theorem cell6 {w wr : World} {ad : Addr} {k B : Nat} {u0 u1 u2 u3 u4 u5 : Value} (hb : Below B w wr) (hl : ad.block < B)
   (c0 : w.cell? (ad.add (k * 6)) = some u0) (c1 : w.cell? ⟨(ad.add (k * 6)).block, (ad.add (k * 6)).off + 1, none⟩ = some u1) (c2 : w.cell? ⟨(ad.add (k * 6)).block, (ad.add (k * 6)).off + 2, none⟩ = some u2)
   (c3 : w.cell? ⟨(ad.add (k * 6)).block, (ad.add (k * 6)).off + 3, none⟩ = some u3) (c4 : w.cell? ⟨(ad.add (k * 6)).block, (ad.add (k * 6)).off + 4, none⟩ = some u4) (c5 : w.cell? ⟨(ad.add (k * 6)).block, (ad.add (k * 6)).off + 5, none⟩ = some u5) :
   wr.cell? (ad.add (k * 6)) = some u0 /\ wr.cell? ⟨(ad.add (k * 6)).block, (ad.add (k * 6)).off + 1, none⟩ = some u1 /\ wr.cell? ⟨(ad.add (k * 6)).block, (ad.add (k * 6)).off + 2, none⟩ = some u2 /\
   wr.cell? ⟨(ad.add (k * 6)).block, (ad.add (k * 6)).off + 3, none⟩ = some u3 /\ wr.cell? ⟨(ad.add (k * 6)).block, (ad.add (k * 6)).off + 4, none⟩ = some u4 /\ wr.cell? ⟨(ad.add (k * 6)).block, (ad.add (k * 6)).off + 5, none⟩ = some u5 := by
 have hl' : (ad.add (k * 6)).block < B := by rw [block_of_add]; exact hl
 exact ⟨(hb.cell hl').trans c0, (hb.cell (p := ⟨(ad.add (k * 6)).block, (ad.add (k * 6)).off + 1, none⟩) hl').trans c1, (hb.cell (p := ⟨(ad.add (k * 6)).block, (ad.add (k * 6)).off + 2, none⟩) hl').trans c2,
   (hb.cell (p := ⟨(ad.add (k * 6)).block, (ad.add (k * 6)).off + 3, none⟩) hl').trans c3, (hb.cell (p := ⟨(ad.add (k * 6)).block, (ad.add (k * 6)).off + 4, none⟩) hl').trans c4, (hb.cell (p := ⟨(ad.add (k * 6)).block, (ad.add (k * 6)).off + 5, none⟩) hl').trans c5⟩
theorem claims_any (v : Value) (xs : List Clm) (w : World) (hv : CV w v xs) (hx : xs.length <= 999999) :
   Calls Tryz.prog 11 #[v] w fun e w' => ∃ v', e = .returned v' /\ CV w' v' xs /\ Below w.heap.size w w' := by
 obtain ⟨A, c, rfl, hlc, hl, hcell⟩ := hv
 have HC := Hd hcell
 obtain ⟨L, hL⟩ : ∃ L, L = xs.length := ⟨_, rfl⟩
 rw [<- hL] at HC hlc hl hx
 rw [<- hL]
 have HLe := Hd hL
 clear hcell hL
 go_enter Tryz.func11, Tryz.ntmps11
 go_wp2_with fail
 go_loopw [3, 8] (fun v i wr => ∃ k : Nat, k <= L /\ i = .int .i64 (k : Int) /\ Hid (RC6 47 w.heap.size w wr v (xs.take k)) /\ Hid (Below w.heap.size w wr)) (fun _ i _ => L - (intOf i).toNat)
 case atStart => exact ⟨0, Nat.zero_le _, rfl, by rw [List.take_zero]; exact RC6.nil_ _ _ _ _, Below.refl _ _⟩
 case round =>
   obtain ⟨k, hk, rfl, hr, hb⟩ := hrel
   by_cases hlt : k < L
   · obtain ⟨ad, ⟨kk, Q, N, a, b, f⟩, va, vb, vf, rfl, hab, hx1, p0, p1, p2, p3, p4, p5, ra, rb, rf⟩ := HC.out k hlt
     obtain ⟨Aa, ca, rfl, -⟩ := ra.open_
     obtain ⟨Ab, cb, rfl, -⟩ := rb.open_
     obtain ⟨Af, cf, rfl, -⟩ := rf.open_
     have HCw : Hid (CW w [.int .i64 kk, .int .i64 Q, .int .i64 N, .slice Aa a.length ca, .slice Ab b.length cb, .slice Af f.length cf] (kk, Q, N, a, b, f)) := ⟨_, _, _, rfl, ra, rb, rf⟩
     have HTk : Hid (xs.take (k + 1) = xs.take k ++ [(kk, Q, N, a, b, f)]) := by
       show _ = _
       rw [List.take_add_one, hx1.out]; rfl
     have hlen : (xs.take k).length = k := by rw [List.length_take]; have := HLe.out; omega
     obtain ⟨p0, p1, p2, p3, p4, p5⟩ := cell6 hb.out hab p0 p1 p2 p3 p4 p5
     generalize a.length = la at *
     generalize b.length = lb at *
     generalize f.length = lf at *
     obtain ⟨W5, hW5⟩ : ∃ W5, W5 = wr.alloc (.cells #[.int .i64 kk, .int .i64 Q, .int .i64 N, .slice Aa la ca, .slice Ab lb cb, .slice Af lf cf] 40) := ⟨_, rfl⟩
     have hb5 : Below wr.heap.size wr W5 := by rw [hW5]; exact below_alloc wr _
     have HX5 := Hd (show BL W5 wr.heap.size 40 [.int .i64 kk, .int .i64 Q, .int .i64 N, .slice Aa la ca, .slice Ab lb cb, .slice Af lf cf] by rw [hW5]; exact BL.new' wr _ _)
     have HR5 := hr.out.below hb5
     have HB5 := hb.out.trans (hb5.mono hb.out.size)
     have HW5 := Hd hW5
     obtain ⟨i1, hi1, hz01, hz11, hz21⟩ := info_parts' rclaim_info
     obtain ⟨Av, cv, rfl⟩ := hr.out.shape
     obtain ⟨g9, cap9, w9, hrun, hown, hgr⟩ := RC6.push (P := Tryz.prog) w W5 30 30 i1 _ 96 Tryz.underlying30 hi1 hz01 hz11 hz21 (by omega) rfl w.heap.size _ (xs.take k) HR5 kk Q N Aa Ab Af la lb lf ca cb cf _ HCw.out (by omega) HB5.size
     have HB9 : Hid (Below w.heap.size w w9) := (HB5.alloc HB5.size _).grown hgr (by simp; have := HB5.size; omega) (fun k hk => (HR5.own hk).1)
     rw [hlen] at hrun hown
     rw [hlen]
     rw [<- HTk.out] at hown
     have HOw := Hd hown
     have y0 := HX5.out.cell 0
     have y1 := HX5.out.cell 1
     have y2 := HX5.out.cell 2
     have y3 := HX5.out.cell 3
     have y4 := HX5.out.cell 4
     have y5 := HX5.out.cell 5
     clear hi1 hz01 hz11 hz21 hown hgr HTk hlen HR5 HB5 hb5 hW5 ra rb rf hx1 hr hb hab
     go_upto_region 5 with fail
     rw [<- HW5.out]
     go_wp2_with (refine wpList_append' rfl (.tmp 12) (.tmp 14) 30 rfl _ _ (by simp [Act.eval]) (by simp [Act.eval]) _ _ hrun ?_)
     go_roundw
     case rel => exact ⟨k + 1, by omega, by go_num, HOw.out, HB9.out⟩
     case measure => simp [intOf]; omega
   · obtain rfl : k = L := by omega
     have h := hr.out.cv hb.out
     rw [List.take_of_length_le (by have := HLe.out; omega)] at h
     have HR := Hd h
     clear h
     go_wp2
     go_ret
     exact ⟨_, rfl, HR.out, hb.out⟩

theorem sameC_refl (k Q N : Int) (a b f : List Int) : sameC k Q N a b f k Q N a b f = true := by
 unfold sameC
 rw [(eqL_iff a a).2 rfl, (eqL_iff b b).2 rfl, (eqL_iff f f).2 rfl]
 simp
theorem sameAll_any (v1 v2 : Value) (xs : List Clm) (w : World) (h1 : CV w v1 xs) (h2 : CV w v2 xs) :
   Calls Tryz.prog 10 #[v1, v2] w fun e w' => e = .returned (.bool true) /\ Below w.heap.size w w' := by
 obtain ⟨A1, c1, rfl, hlc1, hl1, hc1⟩ := h1
 obtain ⟨A2, c2, rfl, hlc2, hl2, hc2⟩ := h2
 have HC1 := Hd hc1
 have HC2 := Hd hc2
 obtain ⟨L, hL⟩ : ∃ L, L = xs.length := ⟨_, rfl⟩
 rw [<- hL] at HC1 HC2 hlc1 hlc2 hl1
 rw [<- hL]
 clear hc1 hc2 hL hl2
 go_enter Tryz.func10, Tryz.ntmps10
 go_wp2_with fail
 go_loopw [5] (fun i wr => ∃ k : Nat, k <= L /\ i = .int .i64 (k : Int) /\ Hid (Below w.heap.size w wr)) (fun i _ => L - (intOf i).toNat)
 case atStart => exact ⟨0, Nat.zero_le _, rfl, Below.refl _ _⟩
 case round =>
   obtain ⟨k, hk, rfl, hb⟩ := hrel
   by_cases hlt : k < L
   · obtain ⟨ad1, ⟨kk, Q, N, a, b, f⟩, va, vb, vf, rfl, hab1, hx1, p0, p1, p2, p3, p4, p5, ra, rb, rf⟩ := HC1.out k hlt
     obtain ⟨ad2, x2, va2, vb2, vf2, rfl, hab2, hx2, q0, q1, q2, q3, q4, q5, ra2, rb2, rf2⟩ := HC2.out k hlt
     have hxe : x2 = (kk, Q, N, a, b, f) := by
       have h := hx2.out
       rw [hx1.out] at h
       exact (Option.some.inj h).symm
     subst hxe
     have hlt' : (k : Int) < (L : Int) := by omega
     have hbd : Below w.heap.size w wr.drew := hb.out.drew
     have HSa := Hd (rSame57_any va vb vf va2 vb2 vf2 kk Q N a b f kk Q N a b f wr.drew (RI.below ra hbd) (RI.below rb hbd) (RI.below rf hbd) (RI.below ra2 hbd) (RI.below rb2 hbd) (RI.below rf2 hbd))
     rw [sameC_refl] at HSa
     obtain ⟨Aa, ca, rfl, -⟩ := ra.open_
     obtain ⟨Ab, cb, rfl, -⟩ := rb.open_
     obtain ⟨Af, cf, rfl, -⟩ := rf.open_
     obtain ⟨Aa2, ca2, rfl, -⟩ := ra2.open_
     obtain ⟨Ab2, cb2, rfl, -⟩ := rb2.open_
     obtain ⟨Af2, cf2, rfl, -⟩ := rf2.open_
     generalize a.length = la at *
     generalize b.length = lb at *
     generalize f.length = lf at *
     have HKp : Hid (∀ W : World, Below w.heap.size w W -> (fun W : World => (W.cell? (ad1.add (k * 6)) = some (.int .i64 kk) /\ W.cell? ⟨(ad1.add (k * 6)).block, (ad1.add (k * 6)).off + 1, none⟩ = some (.int .i64 Q) /\ W.cell? ⟨(ad1.add (k * 6)).block, (ad1.add (k * 6)).off + 2, none⟩ = some (.int .i64 N) /\ W.cell? ⟨(ad1.add (k * 6)).block, (ad1.add (k * 6)).off + 3, none⟩ = some (.slice Aa la ca) /\ W.cell? ⟨(ad1.add (k * 6)).block, (ad1.add (k * 6)).off + 4, none⟩ = some (.slice Ab lb cb) /\ W.cell? ⟨(ad1.add (k * 6)).block, (ad1.add (k * 6)).off + 5, none⟩ = some (.slice Af lf cf)) /\
         (W.cell? (ad2.add (k * 6)) = some (.int .i64 kk) /\ W.cell? ⟨(ad2.add (k * 6)).block, (ad2.add (k * 6)).off + 1, none⟩ = some (.int .i64 Q) /\ W.cell? ⟨(ad2.add (k * 6)).block, (ad2.add (k * 6)).off + 2, none⟩ = some (.int .i64 N) /\ W.cell? ⟨(ad2.add (k * 6)).block, (ad2.add (k * 6)).off + 3, none⟩ = some (.slice Aa2 la ca2) /\ W.cell? ⟨(ad2.add (k * 6)).block, (ad2.add (k * 6)).off + 4, none⟩ = some (.slice Ab2 lb cb2) /\ W.cell? ⟨(ad2.add (k * 6)).block, (ad2.add (k * 6)).off + 5, none⟩ = some (.slice Af2 lf cf2))) W) := fun W hW =>
       ⟨cell6 hW hab1 p0 p1 p2 p3 p4 p5, cell6 hW hab2 q0 q1 q2 q3 q4 q5⟩
     have HS0 := Hd (HKp.out _ hbd)
     have HBd := Hd hbd
     clear p0 p1 p2 p3 p4 p5 q0 q1 q2 q3 q4 q5 ra rb rf ra2 rb2 rf2 hx1 hx2 hab1 hab2 hbd hb
     go_wp2_with fail
     go_region_held3 (fun W : World => (W.cell? (ad1.add (k * 6)) = some (.int .i64 kk) /\ W.cell? ⟨(ad1.add (k * 6)).block, (ad1.add (k * 6)).off + 1, none⟩ = some (.int .i64 Q) /\ W.cell? ⟨(ad1.add (k * 6)).block, (ad1.add (k * 6)).off + 2, none⟩ = some (.int .i64 N) /\ W.cell? ⟨(ad1.add (k * 6)).block, (ad1.add (k * 6)).off + 3, none⟩ = some (.slice Aa la ca) /\ W.cell? ⟨(ad1.add (k * 6)).block, (ad1.add (k * 6)).off + 4, none⟩ = some (.slice Ab lb cb) /\ W.cell? ⟨(ad1.add (k * 6)).block, (ad1.add (k * 6)).off + 5, none⟩ = some (.slice Af lf cf)) /\
         (W.cell? (ad2.add (k * 6)) = some (.int .i64 kk) /\ W.cell? ⟨(ad2.add (k * 6)).block, (ad2.add (k * 6)).off + 1, none⟩ = some (.int .i64 Q) /\ W.cell? ⟨(ad2.add (k * 6)).block, (ad2.add (k * 6)).off + 2, none⟩ = some (.int .i64 N) /\ W.cell? ⟨(ad2.add (k * 6)).block, (ad2.add (k * 6)).off + 3, none⟩ = some (.slice Aa2 la ca2) /\ W.cell? ⟨(ad2.add (k * 6)).block, (ad2.add (k * 6)).off + 4, none⟩ = some (.slice Ab2 lb cb2) /\ W.cell? ⟨(ad2.add (k * 6)).block, (ad2.add (k * 6)).off + 5, none⟩ = some (.slice Af2 lf cf2))) (first | exact HS0.out | exact HS1.out)
       (first | (go_at_call 19; refine HSa.out.mono ?_; rintro e w6 ⟨rfl, hb6⟩; have HB6 := Hd (HBd.out.trans (hb6.mono HBd.out.size)); have HS1 := Hd (HKp.out _ HB6.out); clear hb6))
     go_wp2
     go_roundw
     case rel => exact ⟨k + 1, by omega, by go_num, HB6.out⟩
     case measure => simp [intOf]; omega
   · obtain rfl : k = L := by omega
     go_wp2
     go_ret
     exact ⟨rfl, hb.out⟩

theorem rdC_len (s : List UInt8) : (rdC s).length <= 999999 := by
 unfold rdC
 by_cases h : (rdE s).2 = 0
 · rw [if_pos h, List.length_map, List.length_drop]
   by_cases h1 : linesE s = 0
   · have := (linesV_facts h1).2.2.2.1; omega
   · have h2 := (rdV_lines h1).1
     rw [h2] at h
     exact absurd h h1
 · rw [if_neg h]; simp
theorem readsLaw_any (s : List UInt8) (w : World) (hlv : LV w) (ht : TB w) : Calls Tryz.prog 3 #[strV s] w fun e w' => e = .returned (.bool true) /\ Below w.heap.size w w' := by
 have HLV := Hd hlv
 have HT := Hd ht
 have HAw : Hid (∀ W, Below w.heap.size w W -> Calls Tryz.prog 6 #[] W fun e w' => e = .returned (.bool true) /\ Below W.heap.size W w') := fun W h => awake57_any W (HLV.out.below h) (HT.out.below h)
 have HA0 := Hd (HAw.out w (Below.refl _ _))
 have HP := Hd (pReadT_any s w hlv)
 have HR : Hid (∀ W, Calls Tryz.prog 8 #[strV s] W fun e w' => ∃ g v, e = .returned (.tuple #[g, v, .int .i64 (rdE s).1, .int .i64 (rdE s).2]) /\ GV w' g (rdG s).1 (rdG s).2 /\ CV w' v (rdC s) /\ Below W.heap.size W w') := fun W => rRead_any s W
 have HCl := Hd (rdC_len s)
 have hsz : (⟨s.toArray⟩ : ByteArray).size = s.length := by simp [ByteArray.size]
 rw [show strV s = .string ⟨s.toArray⟩ from rfl] at *
 generalize (⟨s.toArray⟩ : ByteArray) = Z at *
 generalize (rdE s).1 = at_ at *
 generalize (rdE s).2 = er at *
 generalize rdG s = G at *
 obtain ⟨n, es⟩ := G
 generalize rdC s = xs at *
 clear hlv ht
 by_cases h1 : (3000 : Int) < (s.length : Int) /\ (s.length : Int) <= 65536
 · obtain ⟨h1, h2⟩ := h1
   clear HP HR HCl
   go_enter Tryz.func3, Tryz.ntmps3
   go_wp2_with fail
   refine HA0.out.mono ?_
   rintro e w2 ⟨rfl, hb⟩
   have HB := Hd hb
   clear hb
   go_wp2
   go_ret
   exact ⟨rfl, HB.out⟩
 by_cases h2 : (131072 : Int) < (s.length : Int)
 · have h3 : (3000 : Int) < (s.length : Int) := by omega
   have h4 : ¬ (s.length : Int) <= 65536 := by omega
   clear HP HR HCl h1
   go_enter Tryz.func3, Tryz.ntmps3
   go_wp2_with fail
   refine HA0.out.mono ?_
   rintro e w2 ⟨rfl, hb⟩
   have HB := Hd hb
   clear hb
   go_wp2
   go_ret
   exact ⟨rfl, HB.out⟩
 clear HA0
 by_cases h3 : (3000 : Int) < (s.length : Int)
 · have h4 : ¬ (s.length : Int) <= 65536 := fun h => h1 ⟨h3, h⟩
   clear h1
   go_enter Tryz.func3, Tryz.ntmps3
   go_wp2_with fail
   refine HP.out.mono ?_
   rintro e w1 ⟨g1, v1, rfl, hg1, hv1, hb1⟩
   obtain ⟨A1, c1, rfl, -⟩ := hg1.open_
   obtain ⟨Av1, cv1, hva1, -⟩ := id hv1
   subst hva1
   obtain ⟨W2, hW2⟩ : ∃ W, W = w1.alloc (.cells #[.int .i64 n, .slice A1 es.length c1] 25) := ⟨_, rfl⟩
   have hb2 : Below w1.heap.size w1 W2 := by rw [hW2]; exact below_alloc w1 _
   have HX2 := Hd (show BL W2 w1.heap.size 25 [.int .i64 n, .slice A1 es.length c1] by rw [hW2]; exact BL.new' w1 _ _)
   have HB2 := Hd (hb1.trans (hb2.mono hb1.size))
   have HG2 := Hd (hg1.below hb2)
   have HV2 := Hd (hv1.below hb2)
   have HR2 := Hd (HR.out W2)
   have HW2 := Hd hW2
   clear hb1 hb2 hg1 hv1 hW2 HP HR
   go_upto_region 4 with fail
   rw [<- HW2.out]
   go_wp2_with fail
   refine HR2.out.mono ?_
   rintro e w3 ⟨g3, v3, rfl, hg3, hv3, hb3⟩
   obtain ⟨A3, c3, rfl, -⟩ := hg3.open_
   obtain ⟨Av3, cv3, hva3, -⟩ := id hv3
   subst hva3
   obtain ⟨W4, hW4⟩ : ∃ W, W = w3.alloc (.cells #[.int .i64 n, .slice A3 es.length c3] 25) := ⟨_, rfl⟩
   have hb4 : Below w3.heap.size w3 W4 := by rw [hW4]; exact below_alloc w3 _
   have hb34 := hb3.trans (hb4.mono hb3.size)
   have HY4 := Hd (show BL W4 w3.heap.size 25 [.int .i64 n, .slice A3 es.length c3] by rw [hW4]; exact BL.new' w3 _ _)
   have HX4 := Hd (HX2.out.bel hb34)
   have HB4 := Hd (HB2.out.trans (hb34.mono HB2.out.size))
   have HV4 := Hd (HV2.out.below hb34)
   have HU4 := Hd (hv3.below hb4)
   have hsa := rSame08_any _ _ n n es es W4 (HG2.out.below hb34) (hg3.below hb4)
   rw [show decide (n = n /\ es = es) = true from decide_eq_true ⟨rfl, rfl⟩] at hsa
   have HSa := Hd hsa
   have HW4 := Hd hW4
   have x0 := HX4.out.cell 0
   have x1 := HX4.out.cell 1
   have y0 := HY4.out.cell 0
   have y1 := HY4.out.cell 1
   clear hb3 hb4 hb34 hg3 hv3 hW4 hsa HR2 HX2 HG2 HV2
   go_upto_region 5 with fail
   rw [<- HW4.out]
   go_wp2_with fail
   refine HSa.out.mono ?_
   rintro e w5 ⟨rfl, hb5⟩
   have HB5 := Hd (HB4.out.trans (hb5.mono HB4.out.size))
   have HU5 := Hd (HU4.out.below hb5)
   have HC5 := Hd (claims_any _ xs w5 (HV4.out.below hb5) HCl.out)
   clear hb5 HSa x0 x1 y0 y1 HV4 HU4
   go_wp2_with fail
   refine HC5.out.mono ?_
   rintro e w6 ⟨v6, rfl, hv6, hb6⟩
   have HB6 := Hd (HB5.out.trans (hb6.mono HB5.out.size))
   have HS6 := Hd (sameAll_any v6 _ xs w6 hv6 (HU5.out.below hb6))
   obtain ⟨Av6, cv6, hva6, -⟩ := hv6
   subst hva6
   clear hb6 HC5 HU5
   go_wp2_with fail
   refine HS6.out.mono ?_
   rintro e w7 ⟨rfl, hb7⟩
   have HB7 := Hd (HB6.out.trans (hb7.mono HB6.out.size))
   have HA7 := Hd (HAw.out w7 HB7.out)
   clear hb7 HS6
   go_wp2_with fail
   refine HA7.out.mono ?_
   rintro e w8 ⟨rfl, hb8⟩
   have HB8 := Hd (HB7.out.trans (hb8.mono HB7.out.size))
   clear hb8 HA7
   go_wp2
   go_ret
   exact ⟨rfl, HB8.out⟩
 · clear h1
   go_enter Tryz.func3, Tryz.ntmps3
   go_wp2_with fail
   refine HP.out.mono ?_
   rintro e w1 ⟨g1, v1, rfl, hg1, hv1, hb1⟩
   obtain ⟨A1, c1, rfl, -⟩ := hg1.open_
   obtain ⟨Av1, cv1, hva1, -⟩ := id hv1
   subst hva1
   obtain ⟨W2, hW2⟩ : ∃ W, W = w1.alloc (.cells #[.int .i64 n, .slice A1 es.length c1] 25) := ⟨_, rfl⟩
   have hb2 : Below w1.heap.size w1 W2 := by rw [hW2]; exact below_alloc w1 _
   have HX2 := Hd (show BL W2 w1.heap.size 25 [.int .i64 n, .slice A1 es.length c1] by rw [hW2]; exact BL.new' w1 _ _)
   have HB2 := Hd (hb1.trans (hb2.mono hb1.size))
   have HG2 := Hd (hg1.below hb2)
   have HV2 := Hd (hv1.below hb2)
   have HR2 := Hd (HR.out W2)
   have HW2 := Hd hW2
   clear hb1 hb2 hg1 hv1 hW2 HP HR
   go_upto_region 4 with fail
   rw [<- HW2.out]
   go_wp2_with fail
   refine HR2.out.mono ?_
   rintro e w3 ⟨g3, v3, rfl, hg3, hv3, hb3⟩
   obtain ⟨A3, c3, rfl, -⟩ := hg3.open_
   obtain ⟨Av3, cv3, hva3, -⟩ := id hv3
   subst hva3
   obtain ⟨W4, hW4⟩ : ∃ W, W = w3.alloc (.cells #[.int .i64 n, .slice A3 es.length c3] 25) := ⟨_, rfl⟩
   have hb4 : Below w3.heap.size w3 W4 := by rw [hW4]; exact below_alloc w3 _
   have hb34 := hb3.trans (hb4.mono hb3.size)
   have HY4 := Hd (show BL W4 w3.heap.size 25 [.int .i64 n, .slice A3 es.length c3] by rw [hW4]; exact BL.new' w3 _ _)
   have HX4 := Hd (HX2.out.bel hb34)
   have HB4 := Hd (HB2.out.trans (hb34.mono HB2.out.size))
   have HV4 := Hd (HV2.out.below hb34)
   have HU4 := Hd (hv3.below hb4)
   have hsa := rSame08_any _ _ n n es es W4 (HG2.out.below hb34) (hg3.below hb4)
   rw [show decide (n = n /\ es = es) = true from decide_eq_true ⟨rfl, rfl⟩] at hsa
   have HSa := Hd hsa
   have HW4 := Hd hW4
   have x0 := HX4.out.cell 0
   have x1 := HX4.out.cell 1
   have y0 := HY4.out.cell 0
   have y1 := HY4.out.cell 1
   clear hb3 hb4 hb34 hg3 hv3 hW4 hsa HR2 HX2 HG2 HV2
   go_upto_region 5 with fail
   rw [<- HW4.out]
   go_wp2_with fail
   refine HSa.out.mono ?_
   rintro e w5 ⟨rfl, hb5⟩
   have HB5 := Hd (HB4.out.trans (hb5.mono HB4.out.size))
   have HU5 := Hd (HU4.out.below hb5)
   have HC5 := Hd (claims_any _ xs w5 (HV4.out.below hb5) HCl.out)
   clear hb5 HSa x0 x1 y0 y1 HV4 HU4
   go_wp2_with fail
   refine HC5.out.mono ?_
   rintro e w6 ⟨v6, rfl, hv6, hb6⟩
   have HB6 := Hd (HB5.out.trans (hb6.mono HB5.out.size))
   have HS6 := Hd (sameAll_any v6 _ xs w6 hv6 (HU5.out.below hb6))
   obtain ⟨Av6, cv6, hva6, -⟩ := hv6
   subst hva6
   clear hb6 HC5 HU5
   go_wp2_with fail
   refine HS6.out.mono ?_
   rintro e w7 ⟨rfl, hb7⟩
   have HB7 := Hd (HB6.out.trans (hb7.mono HB6.out.size))
   have HA7 := Hd (HAw.out w7 HB7.out)
   clear hb7 HS6
   go_wp2_with fail
   refine HA7.out.mono ?_
   rintro e w8 ⟨rfl, hb8⟩
   have HB8 := Hd (HB7.out.trans (hb8.mono HB7.out.size))
   clear hb8 HA7
   go_wp2
   go_ret
   exact ⟨rfl, HB8.out⟩
open Go.ChangeShapes Go.WideShapes Go.ChangeAt Go.RowKit Go.Shelf

theorem returns_laid_shaped {H : Type} {enc : TypeId × Value -> H} {a : Assume} {C : Checked} {os : Os} {f : FuncId} {fn : Func} {s : ChangeSpec} {conds : List PathCond} {apart fresh handsOn again : Bool} {X : World -> Array Value -> Prop}
   (hX : ∀ (w w' : World) (args : Array Value), w.heap = w'.heap -> X w args -> X w' args)
   (own : ownKnob C.prog.godebug = none) (started : os.Started) (noInit : C.prog.inits.idxOf? f = none) (hfn : C.prog.funcs[f]? = some fn)
   (witness : ∃ (w : World) (tape : Tape) (i : Input), w.os = os /\ (w.forCall tape i).Shaped C.prog /\ i.vars = [] /\ Input.okWide C.prog (w.forCall tape i) .any w.heap.size f i /\
     ((s.pre enc C.prog fn conds apart (w.forCall tape i).memory i.args /\ X (w.forCall tape i).memory i.args) /\ sizedMet enc C.prog fn (OpenSpec.ofChange s) apart (w.forCall tape i).memory i.args) /\ a.holds C.prog (lone (Frame.enter C.prog f i.args .normal) [] (w.forCall tape i)))
   (contract : ∀ (W : World) (base : Nat) (args : Array Value) (ds gs : List (DataW H)) (before : List MemPlace),
     (∀ (j : Nat) t v, fn.params[j]? = some t -> args[j]? = some v -> Value.okWide C.prog W .any base t v) ->
     DataW.Whole enc C.prog fn.params.toList s.vars apart W args.toList ds gs before ->
     (DataW.weightsEach C.prog (fn.params.toList ++ s.plain.varTypes C.prog) (ds ++ gs)).all (· <= reachBytes) = true -> X W args -> W.ShapedOpen C.prog ->
     Calls C.prog f args W fun e W' => ∃ v, e = .returned v /\ s.post enc C.prog fn apart fresh handsOn again W args v W') :
   ReturnsInHanded a C os f .any (fun w args => (s.pre enc C.prog fn conds apart w args /\ X w args) /\ sizedMet enc C.prog fn (OpenSpec.ofChange s) apart w args) (s.post enc C.prog fn apart fresh handsOn again) := by
 refine returnsInHanded_of_calls own started noInit witness ?_
 intro w tape i _ hsh _ hok hpre _
 obtain ⟨_, _, _, fn', hfn', _, _, _, _, hval⟩ := hok
 have e : fn' = fn := Option.some.inj (hfn'.symm.trans hfn)
 subst e
 obtain ⟨⟨⟨ds, gs, before, hw, -⟩, hx⟩, hz⟩ := hpre
 have hw' := DataW.Whole.of_heap (w' := w.forCall tape i) (by rfl) hw
 refine (contract (w.forCall tape i) w.heap.size i.args ds gs before hval hw' (hz.weights hw) (hX _ _ _ (by rfl) hx) hsh).mono fun e W' ⟨v, he, hp⟩ => ?_
 subst he
 exact ChangeSpec.post_blind hp
theorem gRange_ : Tryz.prog.globalNamed "strconv.ErrRange" = some 5 := by kernel_rfl
theorem tRange_ : (Tryz.prog.globals[5]?).map (·.type) = some 144 := by kernel_rfl
theorem star_ : "*errors.errorString" = "*" ++ "errors.errorString" := by decide
theorem rowErr_ : ∀ u, Tryz.prog.typeName? 3 u = some "*errors.errorString" -> u = 423 := fun u h =>
 typeName_ptr_named (nm := "errors.errorString") (by rw [<- star_]; kernel_rfl) (by kernel_rfl) (by decide) u (by rw [<- star_]; exact h)
abbrev laid57 : List (String × DataW Unit) := Rows.proofReadsRow.laid
theorem lv_of_laid {W : World} (hL : laidMetH Tryz.prog laid57 W) (hsh : W.ShapedOpen Tryz.prog) : LV W := by
 rw [MakeChecks.laidMetH_plain _ _ _ (by kernel_rfl)] at hL
 refine ⟨cell_of_shapedOpen_int (P := Tryz.prog) (g := 0) (t := 3) (zero := #[.int .i64 0]) hsh (of_decide_eq_true (by kernel_rfl)) (by kernel_rfl) rfl (by kernel_rfl) (by kernel_rfl) Tryz.underlying3, ?_⟩
 have h4 := hL.tail.tail.tail.tail
 obtain ⟨a, s, hv, -, -, -⟩ := laid_sentinel h4 gRange_ tRange_ Tryz.underlying144 rowErr_ Tryz.underlying423 Tryz.underlying425 rfl rfl Tryz.underlying9 (by kernel_rfl) (by kernel_rfl)
 have hc := World.var?_cell gRange_ hv 0
 exact ⟨_, by simpa using hc, .inr ⟨_, _, rfl⟩⟩
theorem gPow_ : Tryz.prog.globalNamed "internal/strconv.uint64pow10" = some 3 := by kernel_rfl
theorem tPow_ : (Tryz.prog.globals[3]?).map (·.type) = some 378 := by kernel_rfl
theorem tb_of_laid {W : World} (hL : laidMetH Tryz.prog laid57 W) : TB W := by
 rw [MakeChecks.laidMetH_plain _ _ _ (by kernel_rfl)] at hL
 exact Go.Lib.tabIs_of_head gPow_ tPow_ Tryz.underlying378 Tryz.underlying325 (by kernel_rfl) (by kernel_rfl) hL.tail.tail
end Go.Proofs.YteamhbohgoclgaaGreatDoor
