/- The references' contracts on decimal texts of up to 1100 digits. -/
import Derived.Test.YteamhbohgoclgaaGreatDoorR13
set_option maxRecDepth 100000
set_option maxHeartbeats 16000000
namespace Go.Proofs.YteamhbohgoclgaaGreatDoor
open Go.RowKit Go.Shelf

def BW (K : Nat) (z : Int) : Prop := -p10 K < z /\ z < p10 K
theorem BW.neg {K : Nat} {x : Int} (h : BW K x) : BW K (-x) := by unfold BW at *; omega
theorem bw_len {K : Nat} {l : List Int} {m : Bool} (h : Dig l) (hc : Can l) (hb : BW K (sgZ l m)) : l.length <= K := by
 refine can_len h hc ?_
 have := dval_bd h
 unfold BW sgZ at hb
 cases m <;> simp at hb <;> omega

theorem dCutW_any (va : Value) (l : List Int) (w : World) (ha : RI w va l) (hlen : l.length <= 9000) :
   Calls Tryz.prog 188 #[va] w fun e w' => ∃ v : Value, e = .returned v /\ w = w' /\ ∃ n : Nat, RI w v (l.take n) /\ n <= l.length /\ (∀ i, n <= i -> l.getD i 0 = 0) /\ (n = 0 \/ l.getD (n - 1) 0 ≠ 0) := by
 obtain ⟨A, c, rfl, hlc, hb, hcell⟩ := ha.open_
 have HC := Hd hcell
 have HTk : Hid (∀ n, n <= l.length -> RI w (.slice A n c) (l.take n)) := fun n hn => by
   have e : (l.take n).length = n := by rw [List.length_take, Nat.min_eq_left hn]
   have := RI.mk_ (w := w) (A := A) (c := c) (zs := l.take n) (by omega) (by omega) fun k z hk => by
     have hk1 : k < n := by have := (List.getElem?_eq_some_iff.1 hk).1; omega
     obtain ⟨ad, y, hA, hadb, hy, hcl⟩ := HC.out k (by omega)
     refine ⟨ad, hA, hadb, ?_⟩
     rw [List.getElem?_take_of_lt hk1, hy.out] at hk
     cases hk
     exact hcl
   rwa [e] at this
 clear hcell ha
 go_enter Tryz.func188, Tryz.ntmps188
 go_wp2_with fail
 go_loop [3] (fun i => ∃ k : Nat, k <= l.length /\ i = .int .i64 (k : Int) /\ Hid (∀ i, k <= i -> l.getD i 0 = 0)) (fun i => (intOf i).toNat)
 case atStart => exact ⟨l.length, Nat.le_refl _, rfl, fun i hi => by rw [List.getD_eq_getElem?_getD, List.getElem?_eq_none hi]; rfl⟩
 case round =>
   obtain ⟨k, hk, rfl, hA⟩ := hrel
   by_cases hk0 : k = 0
   · subst hk0
     have HT := Hd (HTk.out 0 (Nat.zero_le _))
     go_wp2
     go_ret
     exact ⟨_, rfl, rfl, 0, HT.out, Nat.zero_le _, hA.out, .inl rfl⟩
   · obtain ⟨j, rfl⟩ : ∃ j, k = j + 1 := ⟨k - 1, by omega⟩
     obtain ⟨ad, z, rfl, hadb, hz, hcl⟩ := HC.out j (by omega)
     have hzz : l.getD j 0 = z := by rw [List.getD_eq_getElem?_getD, hz.out]; rfl
     have HZ := Hd hzz
     have HT := Hd (HTk.out (j + 1) hk)
     have hjj : ((j + 1 : Nat) : Int) - 1 = (j : Int) := by omega
     clear HC HTk hzz
     by_cases hz0 : z = 0
     · have HA2 : Hid (∀ i, j <= i -> l.getD i 0 = 0) := fun i hi => by
         by_cases e : i = j
         · rw [e, HZ.out, hz0]
         · exact hA.out i (by omega)
       subst hz0
       go_wp2
       go_round
       case rel => exact ⟨j, by omega, by go_num, HA2.out⟩
       case measure => simp [intOf]
     · go_wp2
       go_ret
       exact ⟨_, rfl, rfl, j + 1, HT.out, by omega, hA.out, .inr (by have h := HZ.out; rw [List.getD_eq_getElem?_getD] at h; simpa [h] using hz0)⟩

theorem dDigitsW_any (l : List Int) (m : Bool) (w : World) (hd : Dig l) (hc : Can l) (hlen : l.length <= 1100) :
   Calls Tryz.prog 135 #[.string ⟨(textL l m).toArray⟩] w fun e w' => ∃ v, e = .returned v /\ RI w' v l /\ Below w.heap.size w w' := by
 obtain ⟨i0, hi, hz0, hz1, hz2⟩ := info_parts int_info
 have hR := digR_text hd m
 have hby := text_bytes hd m
 have hbl := text_len l m
 obtain ⟨bs, hbs⟩ : ∃ bs, bs = textL l m := ⟨_, rfl⟩
 rw [<- hbs] at hR hby hbl ⊢
 obtain ⟨S, hS⟩ : ∃ S, S = ByteArray.mk bs.toArray := ⟨_, rfl⟩
 have hsz : S.size = bs.length := by rw [hS]; simp [ByteArray.size]
 have HIx : Hid (∀ (j : Nat) (b : UInt8) (W : World), bs[j]? = some b -> (Instr.index 132 (.string S) (.int .i64 (j : Int))).run Tryz.prog W = .ok (.int .u8 (b.toNat : Int)) W) := fun j b W h => by
   obtain ⟨hj, e⟩ := List.getElem?_eq_some_iff.1 h
   rw [run_index_string _ _ _ _ _ Tryz.underlying132, dif_pos (by omega)]
   subst hS
   simp [ByteArray.getElem_eq_getElem_data, e]
 rw [<- hS]
 have HR := Hd hR
 have HBy := Hd hby
 have HD := Hd hd
 have HCn := Hd hc
 have hb100 : bs.length <= 1101 := by omega
 clear hR hby hS hbs hd hc hbl hlen
 go_enter Tryz.func135, Tryz.ntmps135
 go_wp2_with fail
 go_loopw [3, 4] (fun o i wr => ∃ (k : Nat) (vo : Value), vo = o /\ k <= bs.length /\ i = .int .i64 ((k : Int) - 1) /\ Hid (OI wr w.heap.size o (digR (bs.drop k))) /\ Hid (Below w.heap.size w wr)) (fun _ i _ => (intOf i + 1).toNat)
 case atStart => exact ⟨bs.length, _, rfl, Nat.le_refl _, by first | rfl | rw [hsz], by rw [List.drop_of_length_le (Nat.le_refl _)]; exact OI.nil_ _ _, Below.refl _ _⟩
 case round =>
   obtain ⟨k, vo, rfl, hk, rfl, ho, hb⟩ := hrel
   by_cases hk0 : k = 0
   · subst hk0
     have hrn := ho.out.rv
     have HRI := Hd (show RI wr vo (if l = [] then [0] else l) from by rw [<- HR.out]; exact hrn)
     have hlen : (if l = [] then [0] else l).length <= 9000 := by
       rw [<- HR.out]; have := digR_len bs; omega
     have HCu := Hd (dCutW_any vo _ wr HRI.out hlen)
     clear hrn hlen
     go_wp2_with fail
     refine HCu.out.mono ?_
     rintro e w2 ⟨v2, rfl, rfl, n, hr2, hn, hz, hl2⟩
     have HR2 : Hid (RI wr v2 l) := by
       by_cases e : l = []
       · subst e
         rw [if_pos rfl] at hr2 hn hz hl2
         have : n = 0 := by
           rcases hl2 with h | h
           · exact h
           · rw [show n - 1 = 0 by simp at hn; omega] at h; simp at h
         subst this
         show RI wr v2 []
         simpa using hr2
       · rw [if_neg e] at hr2 hn hz hl2
         have := cut_same HCn.out hn hz
         subst this
         rw [List.take_of_length_le (Nat.le_refl _)] at hr2
         exact hr2
     clear hr2 hn hz hl2
     go_wp2
     go_ret
     exact ⟨_, rfl, HR2.out, hb.out⟩
   · obtain ⟨j, rfl⟩ : ∃ j, k = j + 1 := ⟨k - 1, by omega⟩
     have hbj : bs[j]? = some bs[j] := List.getElem?_eq_getElem (by omega)
     have hmem := HBy.out bs[j] (List.getElem_mem _)
     generalize bs[j] = b at *
     have hix := fun W => HIx.out j b W hbj
     have hdr := digR_drop hbj
     have hdl := digR_len (bs.drop (j + 1))
     have hdl2 : (digR (bs.drop (j + 1))).length <= 1101 := by rw [List.length_drop] at hdl; omega
     have hjj : (((j + 1 : Nat) : Int) - 1) = (j : Int) := by omega
     rw [hjj]
     clear hbj hdl
     by_cases e45 : b = 45
     · rw [if_pos e45] at hdr
       have hb45 : (b.toNat : Int) = 45 := by rw [e45]; rfl
       have HDr := Hd hdr
       rw [hb45] at hix
       clear hdr hmem e45 hb45
       go_wp2
       go_roundw
       case rel => exact ⟨j, _, rfl, by omega, by go_num, by rw [HDr.out]; exact ho.out, hb.out⟩
       case measure => simp [intOf] <;> omega
     · rw [if_neg e45] at hdr
       have hne : (b.toNat : Int) ≠ 45 := fun h => e45 (UInt8.toNat_inj.1 (by have : (45 : UInt8).toNat = 45 := rfl; omega))
       have h48 : 48 <= (b.toNat : Int) /\ (b.toNat : Int) <= 57 := by
         rcases hmem with h | h
         · exact absurd h e45
         · omega
       have HDr := Hd hdr
       generalize (b.toNat : Int) = z at *
       have hw : IntKind.u8.wrap (z - 48) = z - 48 := by simp (disch := omega) only [IntWalk.u8_in]
       clear hdr hmem e45
       generalize digR (bs.drop (j + 1)) = out at *
       obtain ⟨hov, hrv, hfin⟩ := OI.snoc ho.out (z-48) hb.out
       have HOv := Hd hov
       have HRv := Hd hrv
       have HFin := Hd hfin
       have hszB := hb.out.size
       clear hov hrv hfin
       go_wp2_with (at_builtin; refine wpList_appendV _ rfl _ _ _ rfl 3 i0 _ 8 Tryz.underlying37 hi hz0 hz1 hz2 rfl w.heap.size _ _ rfl HOv.out _ _ rfl HRv.out (one_ones rfl) (by simp; omega) (by simp; omega) (by simp; omega) ?_; intro v1 w3 hown hg hat; obtain ⟨hf1, hf2⟩ := HFin.out v1 w3 hown hg; have HF1 := Hd hf1; have HF2 := Hd hf2; clear hown hg hat hf1 hf2)
       go_wp2
       go_roundw
       case rel => exact ⟨j, _, rfl, by omega, by go_num, by rw [HDr.out]; exact HF1.out, HF2.out⟩
       case measure => simp [intOf] <;> omega

theorem dAddedW_any (va vb : Value) (a b : List Int) (w : World) (ha : RI w va a) (hb : RI w vb b) (hda : Dig a) (hdb : Dig b) (hca : Can a) (hcb : Can b) (hla : a.length <= 1100) (hlb : b.length <= 1100) :
   Calls Tryz.prog 299 #[va, vb] w fun e w' => ∃ v, e = .returned v /\ Below w.heap.size w w' /\ ∃ out, OI w' w.heap.size v out /\ Dig out /\ Can out /\ dval out = dval a + dval b := by
 obtain ⟨i0, hi, hz0, hz1, hz2⟩ := info_parts int_info
 have HRa := Hd ha
 have HRb := Hd hb
 obtain ⟨A, c, rfl, -⟩ := ha.open_
 obtain ⟨A', c', rfl, -⟩ := hb.open_
 have HDa := Hd hda
 have HDb := Hd hdb
 have HDone : Hid (∀ (out : List Int) (i : Nat), out.length = i -> Dig out -> a.length <= i -> b.length <= i -> dval out + p10 i * 0 = dval (a.take i) + dval (b.take i) -> (i <= a.length \/ i <= b.length \/ out.getD (i - 1) 0 ≠ 0) -> Can out /\ dval out = dval a + dval b) :=
   fun out i h1 h2 h3 h4 h5 h6 => add_done h1 h2 hda hdb hca hcb h3 h4 h5 h6
 clear ha hb hda hdb hca hcb
 go_enter Tryz.func299, Tryz.ntmps299
 go_wp2_with fail
 go_loopw [5, 6, 7] (fun o cc ii wr => ∃ (i : Nat) (c : Int) (out : List Int) (vo : Value), vo = o /\ cc = .int .i64 c /\ ii = .int .i64 (i : Int) /\ 0 <= c /\ c <= 1 /\ i <= 1101 /\ Hid (OI wr w.heap.size o out) /\ Hid (Below w.heap.size w wr) /\ Hid (out.length = i) /\ Hid (Dig out) /\ Hid (dval out + p10 i * c = dval (a.take i) + dval (b.take i)) /\ Hid (i <= a.length \/ i <= b.length \/ (c = 0 /\ out.getD (i - 1) 0 ≠ 0))) (fun _ _ i _ => 1101 - (intOf i).toNat)
 case atStart => exact ⟨0, 0, [], _, rfl, rfl, rfl, by omega, by omega, by omega, OI.nil_ _ _, Below.refl _ _, rfl, dig_nil, by simp [Hid, dval], .inl (Nat.zero_le _)⟩
 case round =>
   obtain ⟨i, cy, out, vo, rfl, rfl, rfl, hc0, hc1, hi1101, ho, hbw, hl, hd, hv, ht⟩ := hrel
   by_cases hgo : i < a.length \/ i < b.length \/ 0 < cy
   · have hi100 : i + 1 <= 1101 := by
       rcases ht.out with h | h | h
       · omega
       · omega
       · omega
     obtain ⟨s1, s2, s3, s4, s5⟩ := add_step hl.out hd.out HDa.out HDb.out hc0 hc1 hv.out
     have hax := HDa.out i
     have hbx := HDb.out i
     have HDg1 := Hd (dDigit_any _ a i wr (RI.below HRa.out hbw.out))
     have HDg2 := Hd (dDigit_any _ b i wr (RI.below HRb.out hbw.out))
     have htop : (i + 1 <= a.length \/ i + 1 <= b.length \/ ((cy + (a.getD i 0 + b.getD i 0)) / 10 = 0 /\ (out ++ [(cy + (a.getD i 0 + b.getD i 0)) % 10]).getD (i + 1 - 1) 0 ≠ 0)) := by
       by_cases h1 : i < a.length
       · exact .inl (by omega)
       by_cases h2 : i < b.length
       · exact .inr (.inl (by omega))
       refine .inr (.inr ?_)
       have hlo := getD_snoc_last out ((cy + (a.getD i 0 + b.getD i 0)) % 10)
       rw [hl.out] at hlo
       rw [Nat.add_sub_cancel, hlo, getD_end a (by omega), getD_end b (by omega)]
       omega
     have S1 := Hd s1
     have S2 := Hd s2
     have S3 := s3
     have S4 := s4
     have S5 := Hd s5
     have HTop := Hd htop
     have hol : out.length <= 1101 := by have := hl.out; omega
     clear s1 s2 s3 s4 s5 htop
     generalize a.getD i 0 = x at *
     generalize b.getD i 0 = y at *
     have hr := rem_at (s := cy + (x + y)) (by omega)
     have hq := quo_at (s := cy + (x + y)) (by omega)
     have hrb : 0 <= (cy + (x + y)) % 10 /\ (cy + (x + y)) % 10 <= 9 := by omega
     have hcs : 0 <= cy + (x + y) /\ cy + (x + y) <= 19 := by omega
     obtain ⟨hov, hrv, hfin⟩ := OI.snoc ho.out ((cy+(x+y))%10) hbw.out
     have HOv := Hd hov
     have HRv := Hd hrv
     have HFin := Hd hfin
     have hszB := hbw.out.size
     clear hov hrv hfin
     by_cases g1 : i < a.length
     · clear hgo
       go_wp2_with fail
       refine HDg1.out.mono ?_
       rintro e w1 ⟨rfl, rfl⟩
       go_wp2_with fail
       refine HDg2.out.mono ?_
       rintro e w1 ⟨rfl, rfl⟩
       go_wp2_with (at_builtin; refine wpList_appendV _ rfl _ _ _ rfl 3 i0 _ 8 Tryz.underlying37 hi hz0 hz1 hz2 rfl w.heap.size _ _ rfl HOv.out _ _ rfl HRv.out (one_ones rfl) (by first | omega | (simp; omega)) (by first | omega | (simp; omega)) (by first | omega | (simp; omega)) ?_; intro v1 w3 hown hg hat; obtain ⟨hf1, hf2⟩ := HFin.out v1 w3 hown hg; have HF1 := Hd hf1; have HF2 := Hd hf2; clear hown hg hat hf1 hf2)
       go_wp2
       go_roundw
       case rel => exact ⟨i + 1, _, _, _, rfl, rfl, by go_num, S3, S4, hi100, HF1.out, HF2.out, S1.out, S2.out, S5.out, HTop.out⟩
       case measure => simp [intOf] <;> omega
     by_cases g2 : i < b.length
     · clear hgo
       go_wp2_with fail
       refine HDg1.out.mono ?_
       rintro e w1 ⟨rfl, rfl⟩
       go_wp2_with fail
       refine HDg2.out.mono ?_
       rintro e w1 ⟨rfl, rfl⟩
       go_wp2_with (at_builtin; refine wpList_appendV _ rfl _ _ _ rfl 3 i0 _ 8 Tryz.underlying37 hi hz0 hz1 hz2 rfl w.heap.size _ _ rfl HOv.out _ _ rfl HRv.out (one_ones rfl) (by first | omega | (simp; omega)) (by first | omega | (simp; omega)) (by first | omega | (simp; omega)) ?_; intro v1 w3 hown hg hat; obtain ⟨hf1, hf2⟩ := HFin.out v1 w3 hown hg; have HF1 := Hd hf1; have HF2 := Hd hf2; clear hown hg hat hf1 hf2)
       go_wp2
       go_roundw
       case rel => exact ⟨i + 1, _, _, _, rfl, rfl, by go_num, S3, S4, hi100, HF1.out, HF2.out, S1.out, S2.out, S5.out, HTop.out⟩
       case measure => simp [intOf] <;> omega
     · have g3 : 0 < cy := by omega
       clear hgo
       go_wp2_with fail
       refine HDg1.out.mono ?_
       rintro e w1 ⟨rfl, rfl⟩
       go_wp2_with fail
       refine HDg2.out.mono ?_
       rintro e w1 ⟨rfl, rfl⟩
       go_wp2_with (at_builtin; refine wpList_appendV _ rfl _ _ _ rfl 3 i0 _ 8 Tryz.underlying37 hi hz0 hz1 hz2 rfl w.heap.size _ _ rfl HOv.out _ _ rfl HRv.out (one_ones rfl) (by first | omega | (simp; omega)) (by first | omega | (simp; omega)) (by first | omega | (simp; omega)) ?_; intro v1 w3 hown hg hat; obtain ⟨hf1, hf2⟩ := HFin.out v1 w3 hown hg; have HF1 := Hd hf1; have HF2 := Hd hf2; clear hown hg hat hf1 hf2)
       go_wp2
       go_roundw
       case rel => exact ⟨i + 1, _, _, _, rfl, rfl, by go_num, S3, S4, hi100, HF1.out, HF2.out, S1.out, S2.out, S5.out, HTop.out⟩
       case measure => simp [intOf] <;> omega
   · have g1 : ¬ i < a.length := fun h => hgo (.inl h)
     have g2 : ¬ i < b.length := fun h => hgo (.inr (.inl h))
     have g3 : ¬ 0 < cy := fun h => hgo (.inr (.inr h))
     obtain rfl : cy = 0 := by omega
     obtain ⟨r1, r2⟩ := HDone.out out i hl.out hd.out (by omega) (by omega) hv.out (by
       rcases ht.out with h | h | h
       · exact .inl h
       · exact .inr (.inl h)
       · exact .inr (.inr h.2))
     have R1 := Hd r1
     have R2 := Hd r2
     clear r1 r2 hgo
     go_wp2
     go_ret
     exact ⟨_, rfl, hbw.out, out, ho.out, hd.out, R1.out, R2.out⟩

theorem dTakenW_any (va vb : Value) (a b : List Int) (w : World) (ha : RI w va a) (hb : RI w vb b) (hda : Dig a) (hdb : Dig b) (hcb : Can b) (hle : dval b <= dval a) (hla : a.length <= 1100) :
   Calls Tryz.prog 301 #[va, vb] w fun e w' => ∃ v, e = .returned v /\ Below w.heap.size w w' /\ ∃ out, RI w' v out /\ Dig out /\ Can out /\ dval out = dval a - dval b := by
 obtain ⟨i0, hi, hz0, hz1, hz2⟩ := info_parts int_info
 have HRb := Hd hb
 obtain ⟨A, c, rfl, -, -, hcell⟩ := ha.open_
 obtain ⟨A', c', rfl, -⟩ := hb.open_
 have HC := Hd hcell
 have HDa := Hd hda
 have HDb := Hd hdb
 have HDone : Hid (∀ (out : List Int) (c : Int), out.length = a.length -> Dig out -> 0 <= c -> c <= 1 -> dval out - p10 a.length * c = dval (a.take a.length) - dval (b.take a.length) -> dval out = dval a - dval b) :=
   fun out c h1 h2 h3 h4 h5 => tak_done h1 h2 hda hdb hcb hle h3 h4 h5
 clear ha hb hda hdb hcb hle hcell
 go_enter Tryz.func301, Tryz.ntmps301
 go_wp2_with fail
 go_loopw [5, 6, 7] (fun o cc ii wr => ∃ (i : Nat) (c : Int) (out : List Int) (vo : Value), vo = o /\ cc = .int .i64 c /\ ii = .int .i64 (i : Int) /\ 0 <= c /\ c <= 1 /\ i <= a.length /\ Hid (OI wr w.heap.size o out) /\ Hid (Below w.heap.size w wr) /\ Hid (out.length = i) /\ Hid (Dig out) /\ Hid (dval out - p10 i * c = dval (a.take i) - dval (b.take i))) (fun _ _ i _ => a.length - (intOf i).toNat)
 case atStart => exact ⟨0, 0, [], _, rfl, rfl, rfl, by omega, by omega, Nat.zero_le _, OI.nil_ _ _, Below.refl _ _, rfl, dig_nil, by simp [Hid, dval]⟩
 case round =>
   obtain ⟨i, cy, out, vo, rfl, rfl, rfl, hc0, hc1, hia, ho, hbw, hl, hd, hv⟩ := hrel
   by_cases hlt : i < a.length
   · obtain ⟨ad, x, rfl, hadb, hx, hcl⟩ := HC.out i hlt
     have hcw := (hbw.out.cell (by rw [block_of_add]; exact hadb)).trans hcl
     have hax := HDa.out i
     rw [getD_of hx.out] at hax
     have hbx := HDb.out i
     have HDg : Hid (∀ n, Calls Tryz.prog 337 #[.slice A' b.length c', .int .i64 (i : Int)] (wr.drewN n) fun e w' => e = .returned (.int .i64 (b.getD i 0)) /\ w' = wr.drewN n) := fun n => (dDigit_any _ b i _ (RI.below HRb.out (below_drewN hbw.out n))).mono fun _ _ h => ⟨h.1, h.2.symm⟩
     have hol : out.length <= 1100 := by have := hl.out; omega
     have HSt : Hid (∀ z q : Int, 0 <= z -> z <= 9 -> z = x - b.getD i 0 - cy + 10 * q -> (out ++ [z]).length = i + 1 /\ Dig (out ++ [z]) /\ dval (out ++ [z]) - p10 (i + 1) * q = dval (a.take (i + 1)) - dval (b.take (i + 1))) := fun z q h0 h9 he =>
       tak_step hl.out hd.out hv.out h0 h9 (by rw [getD_of hx.out]; exact he)
     clear hcl
     generalize b.getD i 0 = y at *
     by_cases hneg : x - y - cy < 0
     · obtain ⟨s1, s2, s3⟩ := HSt.out (x - y - cy + 10) 1 (by omega) (by omega) (by omega)
       have S1 := Hd s1
       have S2 := Hd s2
       have S3 := Hd s3
       clear s1 s2 s3
       go_wp2_with fail
       go_quiet (first | (go_at_call 337; exact Calls.quiet_of_same (HDg.out _)))
       have HOd := Hd (OI.below ho.out (below_drewN (Below.refl wr.heap.size wr) nq))
       have HBd := Hd (below_drewN hbw.out nq)
       have hszw := hbw.out.size
       obtain ⟨hov, hrv, hfin⟩ := OI.snoc HOd.out (x-y-cy+10) HBd.out
       have HOv := Hd hov
       have HRv := Hd hrv
       have HFin := Hd hfin
       have hszB := HBd.out.size
       clear hov hrv hfin
       go_wp2_with (at_builtin; refine wpList_appendV _ rfl _ _ _ rfl 3 i0 _ 8 Tryz.underlying37 hi hz0 hz1 hz2 rfl w.heap.size _ _ rfl HOv.out _ _ rfl HRv.out (one_ones rfl) (by first | omega | (simp; omega)) (by first | omega | (simp; omega)) (by first | omega | (simp; omega)) ?_; intro v1 w3 hown hg hat; obtain ⟨hf1, hf2⟩ := HFin.out v1 w3 hown hg; have HF1 := Hd hf1; have HF2 := Hd hf2; clear hown hg hat hf1 hf2)
       go_wp2
       go_roundw
       case rel => exact ⟨i + 1, 1, _, _, rfl, rfl, by go_num, by omega, by omega, by omega, HF1.out, HF2.out, S1.out, S2.out, S3.out⟩
       case measure => simp [intOf] <;> omega
     · obtain ⟨s1, s2, s3⟩ := HSt.out (x - y - cy) 0 (by omega) (by omega) (by omega)
       have S1 := Hd s1
       have S2 := Hd s2
       have S3 := Hd s3
       clear s1 s2 s3
       go_wp2_with fail
       go_quiet (first | (go_at_call 337; exact Calls.quiet_of_same (HDg.out _)))
       have HOd := Hd (OI.below ho.out (below_drewN (Below.refl wr.heap.size wr) nq))
       have HBd := Hd (below_drewN hbw.out nq)
       have hszw := hbw.out.size
       obtain ⟨hov, hrv, hfin⟩ := OI.snoc HOd.out (x-y-cy) HBd.out
       have HOv := Hd hov
       have HRv := Hd hrv
       have HFin := Hd hfin
       have hszB := HBd.out.size
       clear hov hrv hfin
       go_wp2_with (at_builtin; refine wpList_appendV _ rfl _ _ _ rfl 3 i0 _ 8 Tryz.underlying37 hi hz0 hz1 hz2 rfl w.heap.size _ _ rfl HOv.out _ _ rfl HRv.out (one_ones rfl) (by first | omega | (simp; omega)) (by first | omega | (simp; omega)) (by first | omega | (simp; omega)) ?_; intro v1 w3 hown hg hat; obtain ⟨hf1, hf2⟩ := HFin.out v1 w3 hown hg; have HF1 := Hd hf1; have HF2 := Hd hf2; clear hown hg hat hf1 hf2)
       go_wp2
       go_roundw
       case rel => exact ⟨i + 1, 0, _, _, rfl, rfl, by go_num, by omega, by omega, by omega, HF1.out, HF2.out, S1.out, S2.out, S3.out⟩
       case measure => simp [intOf] <;> omega
   · obtain rfl : i = a.length := by omega
     have hdv := HDone.out out cy hl.out hd.out hc0 hc1 hv.out
     have HDv := Hd hdv
     have hlen : out.length <= 9000 := by have := hl.out; omega
     have HCu := Hd (dCutW_any vo out wr ho.out.rv hlen)
     clear hdv hlen
     go_wp2_with fail
     refine HCu.out.mono ?_
     rintro e w2 ⟨v2, rfl, rfl, n, hr2, hn, hz, hl2⟩
     obtain ⟨k1, k2, k3, -⟩ := cut_ok hd.out hn hz hl2
     have HR2 := Hd hr2
     have K1 := Hd k1
     have K2 := Hd k2
     have K3 := Hd k3
     clear hr2 hn hz hl2 k1 k2 k3
     go_wp2
     go_ret
     exact ⟨_, rfl, hbw.out, _, HR2.out, K1.out, K2.out, K3.out.trans HDv.out⟩

theorem zTextW_any (va : Value) (l : List Int) (m : Bool) (w : World) (ha : RI w va l) (hd : Dig l) (hl : l.length <= 9000) :
   Calls Tryz.prog 139 #[va, .bool m] w fun e w' => e = .returned (.string ⟨(textL l m).toArray⟩) /\ Below w.heap.size w w' := by
 obtain ⟨A, c, rfl, -, -, hcell⟩ := ha.open_
 have HC := Hd hcell
 have HD := Hd hd
 clear ha hd hcell
 by_cases h0 : l = []
 · subst h0
   go_enter Tryz.func139, Tryz.ntmps139
   go_wp2
   go_ret
   exact ⟨rfl, Below.refl _ _⟩
 · have hlen : 1 <= l.length := List.length_pos_iff.2 h0
   have hne : ((l.length : Int) == 0) = false := by rw [beq_eq_false_iff_ne]; omega
   have H0 := Hd h0
   clear h0
   go_enter Tryz.func139, Tryz.ntmps139
   go_wp2_with fail
   go_loopw [5, 6] (fun s ii wr => ∃ i : Nat, s = .string ⟨(chrs (l.take i)).toArray⟩ /\ ii = .int .i64 (i : Int) /\ i <= l.length /\ Hid (Below w.heap.size w wr)) (fun _ i _ => l.length - (intOf i).toNat)
   case atStart => exact ⟨0, rfl, rfl, Nat.zero_le _, Below.refl _ _⟩
   case round =>
     obtain ⟨i, rfl, rfl, hi, hb⟩ := hrel
     by_cases hlt : i < l.length
     · obtain ⟨ad, d, rfl, hadb, hx, hcl⟩ := HC.out i hlt
       have hcw := (hb.out.cell (by rw [block_of_add]; exact hadb)).trans hcl
       have hd9 := HD.out i
       rw [getD_of hx.out] at hd9
       have hcs := chrs_succ hx.out
       have HCs := Hd hcs
       have hw8 : IntKind.u8.wrap (48 + d) = 48 + d := by simp (disch := omega) only [IntWalk.u8_in]
       have hcv := run_convert_bytes_back (P := Tryz.prog) (wr.alloc (.cells #[.int .u8 (48 + d)] 5)) 130 9 5 ⟨wr.heap.size, 0, none⟩ 1 [UInt8.ofNat (48 + d).toNat] Tryz.underlying130 Tryz.underlying5 Tryz.underlying9 (fun j hj => by
         simp only [List.length_singleton] at hj
         obtain rfl : j = 0 := by omega
         have e : ((UInt8.ofNat (48 + d).toNat).toNat : Int) = 48 + d := by rw [chr_nat hd9.1 hd9.2]; omega
         have hc1 := (show BL (wr.alloc (.cells #[.int .u8 (48 + d)] 5)) wr.heap.size 5 [.int .u8 (48 + d)] from BL.new' wr _ _).cell 0
         rw [show ((⟨wr.heap.size, 0, none⟩ : Addr).add 0) = ⟨wr.heap.size, 0, none⟩ from rfl, hc1]
         show some (Value.int .u8 (48 + d)) = some (.int .u8 ((UInt8.ofNat (48 + d).toNat).toNat : Int))
         rw [e])
       have hsl : (chrs (l.take i)).length <= 9000 := by unfold chrs; simp; omega
       have hadd := fun W => run_string_add_lists (P := Tryz.prog) W [UInt8.ofNat (48 + d).toNat] (chrs (l.take i)) (by simp) (by omega)
       simp only [List.length_singleton] at hcv
       rw [<- List.singleton_append] at hcs
       rw [<- hcs] at hadd
       have hba := below_alloc wr (.cells #[.int .u8 (48 + d)] 5)
       have HB2 := Hd (hb.out.trans (hba.mono hb.out.size))
       have HS2 : Hid (ByteArray.mk (chrs (l.take (i + 1))).toArray = ByteArray.mk (chrs (l.take (i + 1))).toArray) := rfl
       clear hcl hcs hsl hba HCs
       generalize ByteArray.mk (chrs (l.take i)).toArray = S1 at *
       generalize hs2 : ByteArray.mk (chrs (l.take (i + 1))).toArray = S2 at *
       generalize ByteArray.mk [UInt8.ofNat (48 + d).toNat].toArray = B1 at *
       have HS3 := Hd hs2
       clear hs2 HS2
       go_wp2
       go_roundw
       case rel => exact ⟨i + 1, by rw [<- HS3.out], by go_num, by omega, HB2.out⟩
       case measure => simp [intOf] <;> omega
     · obtain rfl : i = l.length := by omega
       have HT : Hid (textL l m = if m then 45 :: chrs l else chrs l) := by show _ = _; unfold textL; rw [if_neg H0.out]
       rw [List.take_of_length_le (Nat.le_refl _)]
       have hsl : (chrs l).length <= 9000 := by unfold chrs; simp; omega
       have hadd := fun W => run_string_add_lists (P := Tryz.prog) W [45] (chrs l) (by simp) (by omega)
       rw [List.singleton_append] at hadd
       clear hsl
       cases m
       · have HS1 : Hid (ByteArray.mk (textL l false).toArray = ByteArray.mk (chrs l).toArray) := by show _ = _; rw [HT.out, if_neg (by decide)]
         clear hadd HT
         generalize ByteArray.mk (chrs l).toArray = S1 at *
         go_wp2
         go_ret
         exact ⟨by rw [HS1.out]; rfl, hb.out⟩
       · have HS1 : Hid (ByteArray.mk (textL l true).toArray = ByteArray.mk (45 :: chrs l).toArray) := by show _ = _; rw [HT.out, if_pos rfl]
         have h45 : ByteArray.mk [45].toArray = ByteArray.mk #[45] := rfl
         rw [h45] at hadd
         clear HT h45
         generalize ByteArray.mk (chrs l).toArray = S1 at *
         generalize ByteArray.mk (45 :: chrs l).toArray = S2 at *
         go_wp2
         go_ret
         exact ⟨by rw [HS1.out]; rfl, hb.out⟩

theorem zTurnedW_any (K : Nat) (hK : K <= 1100) (v : Value) (z : Int) (w : World) (hv : ZS v z) (hb : BW K z) :
   Calls Tryz.prog 245 #[v] w fun e w' => ∃ v', e = .returned v' /\ Below w.heap.size w w' /\ ZS v' (-z) := by
 obtain ⟨l, m, rfl, hd, hc, hm, rfl⟩ := hv
 have hlen := bw_len hd hc hb
 have HD := Hd (dDigitsW_any l m w hd hc (by omega))
 have HM : Hid (∀ W, Calls Tryz.prog 136 #[.string ⟨(textL l m).toArray⟩] W fun e w' => e = .returned (.bool m) /\ W = w') := fun W => zMinus_any l m W hd hm
 have HT : Hid (∀ (va : Value) (W : World), RI W va l -> Calls Tryz.prog 139 #[va, .bool !m] W fun e w' => e = .returned (.string ⟨(textL l (!m)).toArray⟩) /\ Below W.heap.size W w') := fun va W h => zTextW_any va l (!m) W h hd (by omega)
 have HR := Hd (zs_text (m := !m) hd hc)
 rw [sgz_not] at HR
 clear hd hc hm hb hlen
 generalize ByteArray.mk (textL l m).toArray = S at *
 generalize ByteArray.mk (textL l (!m)).toArray = S2 at *
 go_enter Tryz.func245, Tryz.ntmps245
 go_wp2_with fail
 refine HD.out.mono ?_
 rintro e w1 ⟨v1, rfl, hr1, hb1⟩
 have HB1 := Hd hb1
 have HT1 := Hd (HT.out v1 w1 hr1)
 clear hr1 hb1
 go_wp2_with fail
 refine (HM.out _).mono ?_
 rintro e w2 ⟨rfl, rfl⟩
 go_wp2_with fail
 refine HT1.out.mono ?_
 rintro e w2 ⟨rfl, hb2⟩
 have HB2 := Hd (HB1.out.trans (hb2.mono HB1.out.size))
 clear hb2
 go_wp2
 go_ret
 exact ⟨_, rfl, HB2.out, HR.out⟩

theorem zPlusW_any (K : Nat) (hK : K <= 1100) (va vb : Value) (x y : Int) (w : World) (ha : ZS va x) (hb : ZS vb y) (hx : BW K x) (hy : BW K y) :
   Calls Tryz.prog 244 #[va, vb] w fun e w' => ∃ v', e = .returned v' /\ Below w.heap.size w w' /\ ZS v' (x + y) := by
 obtain ⟨l1, m1, rfl, hd1, hc1, hm1, rfl⟩ := ha
 obtain ⟨l2, m2, rfl, hd2, hc2, hm2, rfl⟩ := hb
 have hn1 := bw_len hd1 hc1 hx
 have hn2 := bw_len hd2 hc2 hy
 have HG1 : Hid (∀ W, Calls Tryz.prog 135 #[.string ⟨(textL l1 m1).toArray⟩] W fun e w' => ∃ v, e = .returned v /\ RI w' v l1 /\ Below W.heap.size W w') := fun W => dDigitsW_any l1 m1 W hd1 hc1 (by omega)
 have HG2 : Hid (∀ W, Calls Tryz.prog 135 #[.string ⟨(textL l2 m2).toArray⟩] W fun e w' => ∃ v, e = .returned v /\ RI w' v l2 /\ Below W.heap.size W w') := fun W => dDigitsW_any l2 m2 W hd2 hc2 (by omega)
 have HM1 : Hid (∀ W, Calls Tryz.prog 136 #[.string ⟨(textL l1 m1).toArray⟩] W fun e w' => e = .returned (.bool m1) /\ W = w') := fun W => zMinus_any l1 m1 W hd1 hm1
 have HM2 : Hid (∀ W, Calls Tryz.prog 136 #[.string ⟨(textL l2 m2).toArray⟩] W fun e w' => e = .returned (.bool m2) /\ W = w') := fun W => zMinus_any l2 m2 W hd2 hm2
 have HAd : Hid (∀ (va vb : Value) (W : World), RI W va l1 -> RI W vb l2 -> Calls Tryz.prog 299 #[va, vb] W fun e w' => ∃ v, e = .returned v /\ Below W.heap.size W w' /\ ∃ out, RI w' v out /\ out.length <= 9000 /\ Dig out /\ Can out /\ dval out = dval l1 + dval l2) := fun va vb W h1 h2 =>
   (dAddedW_any va vb l1 l2 W h1 h2 hd1 hd2 hc1 hc2 (by omega) (by omega)).mono fun e w' h => by
     obtain ⟨v, h3, h4, out, h5, h6, h7, h8⟩ := h
     refine ⟨v, h3, h4, out, h5.rv, ?_, h6, h7, h8⟩
     have b1 := (dval_bd hd1).2
     have b2 := (dval_bd hd2).2
     have b3 := p10_mono hn1
     have b4 := p10_mono hn2
     have b5 := p10_pos K
     have := can_len h6 h7 (k := K + 1) (by rw [h8, p10]; omega)
     omega
 have HOr : Hid (∀ (va vb : Value) (W : World), RI W va l1 -> RI W vb l2 -> Calls Tryz.prog 300 #[va, vb] W fun e w' => e = .returned (.int .i64 (cmpI (dval l1) (dval l2))) /\ Below W.heap.size W w') := fun va vb W h1 h2 => dOrder_any va vb l1 l2 W h1 h2 hd1 hd2 hc1 hc2
 have HT1 : Hid (dval l2 <= dval l1 -> ∀ (va vb : Value) (W : World), RI W va l1 -> RI W vb l2 -> Calls Tryz.prog 301 #[va, vb] W fun e w' => ∃ v, e = .returned v /\ Below W.heap.size W w' /\ ∃ out, RI w' v out /\ out.length <= 9000 /\ Dig out /\ Can out /\ dval out = dval l1 - dval l2) := fun hle va vb W h1 h2 =>
   (dTakenW_any va vb l1 l2 W h1 h2 hd1 hd2 hc2 hle (by omega)).mono fun e w' h => by
     obtain ⟨v, h3, h4, out, h5, h6, h7, h8⟩ := h
     refine ⟨v, h3, h4, out, h5, ?_, h6, h7, h8⟩
     have b1 := (dval_bd hd1).2
     have b2 := (dval_bd hd2).1
     have b3 := p10_mono hn1
     have := can_len h6 h7 (k := K) (by rw [h8]; omega)
     omega
 have HT2 : Hid (dval l1 <= dval l2 -> ∀ (va vb : Value) (W : World), RI W va l2 -> RI W vb l1 -> Calls Tryz.prog 301 #[va, vb] W fun e w' => ∃ v, e = .returned v /\ Below W.heap.size W w' /\ ∃ out, RI w' v out /\ out.length <= 9000 /\ Dig out /\ Can out /\ dval out = dval l2 - dval l1) := fun hle va vb W h1 h2 =>
   (dTakenW_any va vb l2 l1 W h1 h2 hd2 hd1 hc1 hle (by omega)).mono fun e w' h => by
     obtain ⟨v, h3, h4, out, h5, h6, h7, h8⟩ := h
     refine ⟨v, h3, h4, out, h5, ?_, h6, h7, h8⟩
     have b1 := (dval_bd hd2).2
     have b2 := (dval_bd hd1).1
     have b3 := p10_mono hn2
     have := can_len h6 h7 (k := K) (by rw [h8]; omega)
     omega
 have HD1 := Hd (HG1.out w)
 clear hd1 hd2 hc1 hc2 hm1 hm2 hx hy hn1 hn2
 generalize ByteArray.mk (textL l1 m1).toArray = S1 at *
 generalize ByteArray.mk (textL l2 m2).toArray = S2 at *
 go_enter Tryz.func244, Tryz.ntmps244
 go_wp2_with fail
 refine HD1.out.mono ?_
 rintro e w1 ⟨v1, rfl, hr1, hb1⟩
 have HB1 := Hd hb1
 have HR1 := Hd hr1
 clear hr1 hb1
 go_wp2_with fail
 refine (HG2.out _).mono ?_
 rintro e w2 ⟨v2, rfl, hr2, hb2⟩
 have HR1b := Hd (RI.below HR1.out hb2)
 have HR2 := Hd hr2
 have HB2 := Hd (HB1.out.trans (hb2.mono HB1.out.size))
 clear hb2
 clear hr2
 go_wp2_with fail
 refine (HM1.out _).mono ?_
 rintro e w3 ⟨rfl, rfl⟩
 go_wp2_with fail
 refine (HM2.out _).mono ?_
 rintro e w3 ⟨rfl, rfl⟩
 by_cases hmm : m1 = m2
 · subst hmm
   have HA1 := Hd (HAd.out v1 v2 w2 HR1b.out HR2.out)
   go_wp2_with fail
   refine HA1.out.mono ?_
   rintro e w3 ⟨v3, rfl, hb3, out, hr3, hl3, hd3, hc3, he3⟩
   have HTx := Hd (zTextW_any v3 out m1 w3 hr3 hd3 hl3)
   have HZ := Hd (zs_text (m := m1) hd3 hc3)
   rw [plus_same he3] at HZ
   have HB3 := Hd (HB2.out.trans (hb3.mono HB2.out.size))
   clear hb3
   clear hr3 hl3 hd3 hc3 he3
   go_wp2_with fail
   refine (HM1.out _).mono ?_
   rintro e w4 ⟨rfl, rfl⟩
   go_wp2_with fail
   refine HTx.out.mono ?_
   rintro e w4 ⟨rfl, hb4⟩
   have HB4 := Hd (HB3.out.trans (hb4.mono HB3.out.size))
   clear hb4
   go_wp2
   go_ret
   exact ⟨_, rfl, HB4.out, HZ.out⟩
 · have hmf : (m1 == m2) = false := by simpa using hmm
   have HNe := Hd hmm
   have HO1 := Hd (HOr.out v1 v2 w2 HR1b.out HR2.out)
   clear hmm
   obtain ⟨k, hk⟩ : ∃ k, k = cmpI (dval l1) (dval l2) := ⟨_, rfl⟩
   rw [<- hk] at HO1
   by_cases hlt : dval l1 < dval l2
   · rw [sgn_lt hlt] at hk
     subst hk
     have HLt := Hd (HT2.out (by omega))
     clear hlt
     go_wp2_with fail
     refine HO1.out.mono ?_
     rintro e w3 ⟨rfl, hb3⟩
     have HA1 := Hd (HLt.out v2 v1 w3 (RI.below HR2.out hb3) (RI.below HR1b.out hb3))
     have HB3 := Hd (HB2.out.trans (hb3.mono HB2.out.size))
     clear hb3
     go_wp2_with fail
     refine HA1.out.mono ?_
     rintro e w4 ⟨v3, rfl, hb4, out, hr3, hl3, hd3, hc3, he3⟩
     have HTx := Hd (zTextW_any v3 out m2 w4 hr3 hd3 hl3)
     have HZ := Hd (zs_text (m := m2) hd3 hc3)
     rw [plus_less HNe.out he3] at HZ
     have HB4 := Hd (HB3.out.trans (hb4.mono HB3.out.size))
     clear hb4
     clear hr3 hl3 hd3 hc3 he3
     go_wp2_with fail
     refine (HM2.out _).mono ?_
     rintro e w5 ⟨rfl, rfl⟩
     go_wp2_with fail
     refine HTx.out.mono ?_
     rintro e w5 ⟨rfl, hb5⟩
     have HB5 := Hd (HB4.out.trans (hb5.mono HB4.out.size))
     clear hb5
     go_wp2
     go_ret
     exact ⟨_, rfl, HB5.out, HZ.out⟩
   · have hk0 : 0 <= k := by
       rw [hk]; unfold cmpI; rw [if_neg hlt]; split <;> omega
     have HLt := Hd (HT1.out (by omega))
     clear hlt hk
     go_wp2_with fail
     refine HO1.out.mono ?_
     rintro e w3 ⟨rfl, hb3⟩
     have HA1 := Hd (HLt.out v1 v2 w3 (RI.below HR1b.out hb3) (RI.below HR2.out hb3))
     have HB3 := Hd (HB2.out.trans (hb3.mono HB2.out.size))
     clear hb3
     go_wp2_with fail
     refine HA1.out.mono ?_
     rintro e w4 ⟨v3, rfl, hb4, out, hr3, hl3, hd3, hc3, he3⟩
     have HTx := Hd (zTextW_any v3 out m1 w4 hr3 hd3 hl3)
     have HZ := Hd (zs_text (m := m1) hd3 hc3)
     rw [plus_more HNe.out he3] at HZ
     have HB4 := Hd (HB3.out.trans (hb4.mono HB3.out.size))
     clear hb4
     clear hr3 hl3 hd3 hc3 he3
     go_wp2_with fail
     refine (HM1.out _).mono ?_
     rintro e w5 ⟨rfl, rfl⟩
     go_wp2_with fail
     refine HTx.out.mono ?_
     rintro e w5 ⟨rfl, hb5⟩
     have HB5 := Hd (HB4.out.trans (hb5.mono HB4.out.size))
     clear hb5
     go_wp2
     go_ret
     exact ⟨_, rfl, HB5.out, HZ.out⟩

theorem zLessW_any (K : Nat) (hK : K <= 1100) (va vb : Value) (x y : Int) (w : World) (ha : ZS va x) (hb : ZS vb y) (hx : BW K x) (hy : BW K y) :
   Calls Tryz.prog 187 #[va, vb] w fun e w' => ∃ v', e = .returned v' /\ Below w.heap.size w w' /\ ZS v' (x - y) := by
 have HT := Hd (zTurnedW_any K hK vb y w hb hy)
 have HP : Hid (∀ (v : Value) (W : World), ZS v (-y) -> Calls Tryz.prog 244 #[va, v] W fun e w' => ∃ v', e = .returned v' /\ Below W.heap.size W w' /\ ZS v' (x - y)) := fun v W h => by
   have := zPlusW_any K hK va v x (-y) W ha h hx hy.neg
   rwa [show x + -y = x - y by omega] at this
 clear ha hb hx hy
 go_enter Tryz.func187, Tryz.ntmps187
 go_wp2_with fail
 refine HT.out.mono ?_
 rintro e w1 ⟨v1, rfl, hb1, hz1⟩
 have HP1 := Hd (HP.out v1 w1 hz1)
 have HB1 := Hd hb1
 clear hb1 hz1
 go_wp2_with fail
 refine HP1.out.mono ?_
 rintro e w2 ⟨v2, rfl, hb2, hz2⟩
 have HZ := Hd hz2
 have HB2 := Hd (HB1.out.trans (hb2.mono HB1.out.size))
 clear hb2
 clear hz2
 go_wp2
 go_ret
 exact ⟨_, rfl, HB2.out, HZ.out⟩

theorem zOrderW_any (K : Nat) (hK : K <= 1100) (va vb : Value) (x y : Int) (w : World) (ha : ZS va x) (hb : ZS vb y) (hx : BW K x) (hy : BW K y) :
   Calls Tryz.prog 134 #[va, vb] w fun e w' => e = .returned (.int .i64 (cmpI x y)) /\ Below w.heap.size w w' := by
 have HL := Hd (zLessW_any K hK va vb x y w ha hb hx hy)
 have HM : Hid (∀ (v : Value) (W : World), ZS v (x - y) -> Calls Tryz.prog 136 #[v] W fun e w' => e = .returned (.bool (decide (x - y < 0))) /\ W = w') := fun v W h => zMinus2_any v _ W h
 clear ha hb hx hy
 go_enter Tryz.func134, Tryz.ntmps134
 go_wp2_with fail
 refine HL.out.mono ?_
 rintro e w1 ⟨v1, rfl, hb1, hz1⟩
 obtain ⟨S, rfl, hz, h0⟩ := zs_str hz1
 have HB1 := Hd hb1
 have HM1 := Hd (HM.out _ w1 hz)
 have h48 : (ByteArray.mk #[48]).toList = [48] := ByteArray.toList_mk [48]
 clear hb1 hz1 hz
 rcases Int.lt_trichotomy x y with c | c | c
 · have HR : Hid (cmpI x y = -1) := sgn_lt c
   rw [decide_eq_false (by omega)] at h0
   rw [decide_eq_true (by omega)] at HM1
   clear c
   go_wp2_with fail
   refine HM1.out.mono ?_
   rintro e w2 ⟨rfl, rfl⟩
   go_wp2
   go_ret
   exact ⟨ret_i HR.out.symm, HB1.out⟩
 · have HR : Hid (cmpI x y = 0) := sgn_eq c
   rw [decide_eq_true (by omega)] at h0
   clear c
   go_wp2
   go_ret
   exact ⟨ret_i HR.out.symm, HB1.out⟩
 · have HR : Hid (cmpI x y = 1) := sgn_gt c
   rw [decide_eq_false (by omega)] at h0
   rw [decide_eq_false (by omega)] at HM1
   clear c
   go_wp2_with fail
   refine HM1.out.mono ?_
   rintro e w2 ⟨rfl, rfl⟩
   go_wp2
   go_ret
   exact ⟨ret_i HR.out.symm, HB1.out⟩

end Go.Proofs.YteamhbohgoclgaaGreatDoor
