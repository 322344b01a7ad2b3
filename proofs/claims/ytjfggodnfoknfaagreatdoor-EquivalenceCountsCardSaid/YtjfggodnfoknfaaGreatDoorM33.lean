/- Contract of reduced.Reduce where the entry at q is larger. (printed by gen/redq.py)
   Contract of equivalence.Equivalent where the second divisor may be larger at 0. (printed by gen/redq.py)
   Lists of decimal digits, the last digit first, and what they are worth. No program in sight.
   Contracts of the references' cut, digit, digits, order of decimal digits.
   Contracts of the references' order, added and taken.
   Contracts of the references' added and taken of decimal digits.
   Contracts of the references' text, Minus, Turned.
   Contracts of the references' Minus, Turned, Plus, Less, Times, Order on decimal texts. -/
import Derived.Test.YtjfggodnfoknfaaGreatDoorM32
set_option maxRecDepth 100000
set_option maxHeartbeats 16000000
namespace Go.Proofs.YtjfggodnfoknfaaGreatDoor
open Go.RowKit Go.Shelf
/-- Bounded but at q. -/
def BdQ (n q : Nat) (ee : Int) (d : List Int) : Prop := ∀ v, v < n → -100 ≤ d.getD v 0 - (if v = q then ee else 0) ∧ d.getD v 0 - (if v = q then ee else 0) ≤ 100
theorem exQ_at {n q : Nat} {es : List Tri} {o : List Int} (hD : Dist n q es o) {v : Nat} (hv : v < n) (ee : Int) : exQ o ee v = if v = q then ee else 0 := by
  unfold exQ
  by_cases h : v = q
  · subst h; rw [if_pos hD.q0, if_pos rfl]
  · rw [if_neg h, if_neg]
    obtain ⟨p, hp, he, -⟩ := hD.par v hv h
    have := (hD.bd p hp).1
    omega
theorem exQ_bd {o : List Int} {ee : Int} (he : -1000 ≤ ee ∧ ee ≤ 1000) (v : Nat) : -1000 ≤ exQ o ee v ∧ exQ o ee v ≤ 1000 := by
  unfold exQ; split <;> omega
theorem LndQ.bds {ee : Int} {n : Nat} {es : List Tri} {o d0 : List Int} {top : Int} {d s : List Int} {k : Int} (h : LndQ ee n es o d0 top d s k) (hE : Edges n es) (hm : multS es ≤ 9) (hk : 0 ≤ k) (ht : top ≤ 12) (hee : -1000 ≤ ee ∧ ee ≤ 1000) : Bd 52200 d ∧ Bd 614400 s := by
  have h9 := pw9 hE hm o k
  refine ⟨bd_of h.dl (by omega) fun v hv => ?_, bd_of h.sl (by omega) fun v hv => ?_⟩
  · have := h.bd v hv; have := exQ_bd (o := o) hee v; omega
  · have h1 := h.up v hv
    have h2 := h.sb v hv
    omega
theorem lendQ_any {ee : Int} (b eb n q gd capd gs caps B : Nat) (ve : Value) (es : List Tri) (d0 : List Int) (w : World) (hE : Edges n es) (hn : n ≤ 6) (hq : q < n) (hc : Conn n (wgt es)) (hm9 : multS es ≤ 9)
    (hST : ST w b n ve q (.slice (some ⟨gd, 0, none⟩) n capd) (.slice (some ⟨gs, 0, none⟩) n caps) 0) (hEB : EB w ve es eb) (heb : eb < w.heap.size) (he1 : eb ≠ gd) (he2 : eb ≠ gs) (hgg : gd ≠ gs)
    (hd : OI w B (.slice (some ⟨gd, 0, none⟩) n capd) d0) (hs : OI w B (.slice (some ⟨gs, 0, none⟩) n caps) (List.replicate n 0)) (hdl : d0.length = n) (hdb : BdQ n q ee d0) (hee : -1000 ≤ ee ∧ ee ≤ 1000) :
    Calls Tryz.prog 59 #[.pointer (some ⟨b, 0, none⟩)] w fun e w' => (∃ v, e = .returned v) ∧ ∃ o top d s, StR b eb n q gd capd gs caps B ve es w d s w' ∧ Dist n q es o ∧ top ≤ 12 ∧ LndQ ee n es o d0 top d s 0 := by
  have hbz : b < w.heap.size := BL.lt hST
  have hdz : gd < w.heap.size := (hd.1.lt gd rfl).2
  have hsz : gs < w.heap.size := (hs.1.lt gs rfl).2
  have hBg : B ≤ gd := (hd.1.lt gd rfl).1
  have HS0 : Hid (StR b eb n q gd capd gs caps B ve es w d0 (List.replicate n 0) w) := ⟨hST, hEB, hd, hs, Fr.refl _ _⟩
  have HDs := Lib.hid (distances_any b eb n q ve _ _ es w hE (by omega) hq hc hST hEB heb)
  have HE := Lib.hid hE
  have HC := Lib.hid hc
  have HDL := Lib.hid hdl
  have HDB := Lib.hid hdb
  have HM9 := Lib.hid hm9
  have HEE := Lib.hid hee
  clear hST hEB hd hs hE hc hdl hdb hm9 hee
  go_enter Tryz.func59, Tryz.ntmps59
  go_wp2_with fail
  refine HDs.out.mono ?_
  rintro e w1 ⟨g, o, rfl, hg, ho, hdist, hb1⟩
  have hol := hdist.len
  have HMx := Lib.hid (Max_any _ o w1 ho.rv (by omega))
  have HO := Lib.hid ho
  have HDi := Lib.hid hdist
  have HB1 := Lib.hid hb1
  have hz1 := hb1.size
  obtain ⟨top, htop⟩ : ∃ top, top = maxTo o (o.length - 1) := ⟨_, rfl⟩
  rw [← htop] at HMx
  have hge : ∀ v, v < n → o.getD v 0 ≤ top := fun v hv => by rw [htop]; exact maxTo_ge _ _ _ (by omega)
  have htb : 0 ≤ top ∧ top ≤ 12 := by
    obtain ⟨j, hj, he⟩ := maxTo_is o (o.length - 1)
    have := hdist.bd j (by omega)
    rw [htop, he]; omega
  have HL0 := Lib.hid (lnd_startQ (ee := ee) (es := es) HDL.out (fun v hv => by rw [exQ_at HDi.out hv]; exact HDB.out v hv) hge)
  have HR0 : Hid (LnR b eb n q gd capd gs caps B ve es w w.heap.size g o d0 (List.replicate n 0) w1) := ⟨⟨BL.bel HS0.out.1 hb1, HS0.out.2.1.below hb1, HS0.out.2.2.1.below hb1, HS0.out.2.2.2.1.below hb1, HS0.out.2.2.2.2.below hb1⟩, ho⟩
  clear ho hdist hb1 htop hge
  go_wp2_with fail
  refine HMx.out.mono ?_
  rintro e w2 ⟨rfl, rfl⟩
  go_wp2
  go_loopw [4] (fun kv wr => ∃ (k : Int) (d s : List Int), kv = .int .i64 k ∧ 0 ≤ k ∧ k ≤ top ∧ Hid (LnR b eb n q gd capd gs caps B ve es w w.heap.size g o d s wr) ∧ Hid (LndQ ee n es o d0 top d s k)) (fun kv _ => (intOf kv).toNat)
  case atStart => exact ⟨top, _, _, rfl, htb.1, Int.le_refl _, HR0.out, HL0.out⟩
  case round =>
    obtain ⟨k, d, s, rfl, hk0, hkt, hr, hl⟩ := hrel
    obtain ⟨wo, rfl⟩ : ∃ wo : World, wo = wr := ⟨_, rfl⟩
    have hbo : w.heap.size ≤ wo.heap.size := hr.out.1.2.2.2.2.size
    have hgw : g < wo.heap.size := (hr.out.2.1.lt g rfl).2
    have e5 : wo.cell? ⟨b, 5, none⟩ = some (.int .i64 0) := BL.cell hr.out.1.1 5
    have n1 : wo.cell? ⟨b, 0, none⟩ = some (.int .i64 (n : Int)) := BL.cell hr.out.1.1 0
    by_cases hpos : 0 < k
    · have hmk := run_make_row' (P := Tryz.prog) 139 4 (.bool false) 1 Tryz.underlying139 bool_info rfl .i64 .i64 n (by omega) (by omega)
      obtain ⟨W1, hW1⟩ : ∃ W1, W1 = (wo.alloc (.cells (madeCells #[Value.bool false] n) 4)).alloc (.cells #[.slice (some ⟨wo.heap.size, 0, none⟩) n n] 139) := ⟨_, rfl⟩
      have hbw1 : Below wo.heap.size wo W1 := by rw [hW1]; exact (below_alloc wo _).alloc (by simp) _
      have o1 : OV W1 wo.heap.size 4 (.slice (some ⟨wo.heap.size, 0, none⟩) n n) ((leftL n 0 (farB n o k)).map Value.bool) := by
        rw [hW1]
        have := OV.below (own_falses wo n (by omega)) (below_alloc (wo.alloc (.cells (madeCells #[Value.bool false] n) 4)) (.cells #[.slice (some ⟨wo.heap.size, 0, none⟩) n n] 139))
        unfold leftL; simpa using this
      have x1 : BL W1 (wo.heap.size + 1) 139 [.slice (some ⟨wo.heap.size, 0, none⟩) n n] := by
        rw [hW1]
        have := BL.new' (wo.alloc (.cells (madeCells #[Value.bool false] n) 4)) #[.slice (some ⟨wo.heap.size, 0, none⟩) n n] 139
        rwa [World.size_alloc] at this
      have HI0 : Hid (LnI b eb n q gd capd gs caps B ve es w w.heap.size g o d s wo.heap.size (leftL n 0 (farB n o k)) W1) := ⟨hr.out.below hbw1, x1, o1⟩
      have c1 := x1.cell 0
      have HW1 := Lib.hid hW1
      clear o1 x1 hbw1
      rw [hW1] at c1
      clear hW1
      go_wp2_with fail
      rw [← HW1.out]
      clear hmk e5 n1 c1 HW1
      go_loopw [36] (fun i wr => ∃ j : Nat, j ≤ n ∧ i = .int .i64 (j : Int) ∧ Hid (LnI b eb n q gd capd gs caps B ve es w w.heap.size g o d s wo.heap.size (leftL n j (farB n o k)) wr)) (fun i _ => n - (intOf i).toNat)
      case atStart => exact ⟨0, Nat.zero_le _, rfl, HI0.out⟩
      case round =>
        obtain ⟨j, hj, rfl, hi⟩ := hrel
        by_cases hlt : j < n
        · have x3 := hi.out.2.1.cell 0
          obtain ⟨-, -, p1, -, -⟩ := OI.at' hi.out.1.2 (k := j) (by have := HDi.out.len; omega)
          obtain ⟨q1, q2, q3⟩ := bools_at hi.out.2.2 (leftL_len (farB_len n o k) hj) hlt
          have hset := (q3 (decide (o.getD j 0 < k))).1
          rw [← farB_at o k hlt, leftL_set (farB_len n o k) hlt, farB_at o k hlt] at hset
          have HI2 : Hid (LnI b eb n q gd capd gs caps B ve es w w.heap.size g o d s wo.heap.size (leftL n (j + 1) (farB n o k)) (wr.setCell ⟨wo.heap.size, j, none⟩ (.bool (decide (o.getD j 0 < k))))) :=
            ⟨⟨hi.out.1.1.set (p := ⟨wo.heap.size, j, none⟩) (by simp; omega) (by simp; omega) (by simp; omega) (by simp; omega) (by simp; omega) _, OI.setOther hi.out.1.2 (p := ⟨wo.heap.size, j, none⟩) (by simp; omega) _⟩, hi.out.2.1.set_other (by simp) _, hset⟩
          clear hset q3
          generalize o.getD j 0 = oj at *
          go_wp2_with fail
          refine wp_region_still_tail 9 (by kernel_rfl) (by kernel_rfl) ?_
          change wpStill _ _ wr.drew _ _ _
          simp only [List.take_succ_cons, List.take_zero, List.drop_succ_cons, List.drop_zero]
          repeat still_step
          refine wpStill_nil ?_
          change wpList _ _ _ _ _ wr.drew
          go_wp2
          go_roundw
          case rel => exact ⟨j + 1, by omega, by go_num, HI2.out.below ((Below.refl _ _).drew)⟩
          case measure => simp [intOf]; omega
        · obtain rfl : j = n := by omega
          have hi2 := hi.out
          rw [leftL_all (farB_len j o k)] at hi2
          obtain ⟨nr, hnr⟩ : ∃ nr, nr = (farB j o k).map fun x => !x := ⟨_, rfl⟩
          have hN : NearL j o k nr := by rw [hnr]; exact farB_near j o k
          rw [← hnr] at hi2
          have HN := Lib.hid hN
          have HI2 := Lib.hid hi2
          clear hi2 hN hnr
          have hgl := HI2.out.2.1.lt
          obtain ⟨wi, rfl⟩ : ∃ wi : World, wi = wr := ⟨_, rfl⟩
          go_wp2
          go_loopw [7, 51] (fun tm i wr => ∃ (j' : Nat) (tz : Int), j' ≤ j ∧ i = .int .i64 (j' : Int) ∧ tm = .int .i64 tz ∧ 0 ≤ tz ∧ tz ≤ 51200 ∧ Hid (LnI b eb j q gd capd gs caps B ve es w w.heap.size g o d s wo.heap.size nr wr) ∧ Hid (Ceil j' es o d k nr (pw2 (upN o k es)) tz)) (fun _ i _ => j - (intOf i).toNat)
          case atStart => exact ⟨0, 0, Nat.zero_le _, rfl, rfl, by omega, by omega, HI2.out, by omega, by have := pw2_pos (upN o k es); omega, fun v hv => by omega⟩
          case round =>
            obtain ⟨v, tz, hv, rfl, rfl, htz0, htz1, hi3, hct⟩ := hrel
            have hz4 := hi3.out.2.1.lt
            by_cases hlt : v < j
            · obtain ⟨-, -, p1, -, -⟩ := OI.at' hi3.out.1.2 (k := v) (by have := HDi.out.len; omega)
              obtain ⟨-, -, e1, -, -⟩ := OI.at' hi3.out.1.1.2.2.1 (k := v) (by have := hl.out.dl; omega)
              have e3 : wr.cell? ⟨b, 3, none⟩ = some (.slice (some ⟨gd, 0, none⟩) j capd) := BL.cell hi3.out.1.1.1 3
              have hz3 := hi3.out.2.1.lt
              have hoe : Hid (o.getD v 0 = o.getD v 0) := rfl
              obtain ⟨ok, hok⟩ : ∃ ok, ok = o.getD v 0 := ⟨_, rfl⟩
              obtain ⟨dv, hdv⟩ : ∃ dv, dv = d.getD v 0 := ⟨_, rfl⟩
              rw [← hok] at p1
              rw [← hdv] at e1
              have hbd := (hl.out.bds HE.out HM9.out hk0 htb.2 HEE.out).1 v
              rw [← hdv] at hbd
              have HOK := Lib.hid hok
              have HDV := Lib.hid hdv
              clear hoe hok hdv
              by_cases hfar : ok = k ∧ dv < 0
              · obtain ⟨rfl, hneg⟩ := hfar
                have HJ := Lib.hid (joins_any b v eb j ve q (.slice (some ⟨gd, 0, none⟩) j capd) (.slice (some ⟨gs, 0, none⟩) j caps) 0 es _ (fnB nr) wr HE.out hlt (by omega) hi3.out.1.1.1 hi3.out.1.1.2.1 (near_clo wr (wo.heap.size + 1) wo.heap.size wo.heap.size j j nr hi3.out.2.1 hi3.out.2.2 HN.out.1) (by omega) (by omega))
                have hj1 := near_pos HE.out HDi.out HN.out hlt HOK.out.symm (by omega)
                have hj2 := joinE_le HE.out.pos (fnB nr) v
                have hm9 := HM9.out
                obtain ⟨jn, hjn⟩ : ∃ jn, jn = joinE es (fnB nr) v := ⟨_, rfl⟩
                rw [← hjn] at HJ hj1 hj2
                obtain ⟨x, hx⟩ : ∃ x, x = (-dv + jn - 1) / jn := ⟨_, rfl⟩
                have hx1 : 0 ≤ x := by rw [hx]; exact Int.ediv_nonneg (by omega) (by omega)
                have hx2 : x ≤ 52300 := by rw [hx]; exact Int.le_trans (Int.ediv_le_self _ (by omega)) (by omega)
                have hcs := ceil_step (x := x) hct.out (by rw [← HDV.out]; exact hneg) (by have := (hl.out.bd v hlt).1; rw [exQ_far (by rw [← HOK.out]; omega)] at this; omega) (by rw [← hjn]; exact hj1) (fun v => (joinE_le HE.out.pos (fnB nr) v).1) (by rw [hx, HDV.out, hjn])
                have hcb : (if x > tz then x else tz) ≤ 51200 := Int.le_trans hcs.2.1 (pw9 HE.out HM9.out _ _)
                have hcb0 : 0 ≤ (if x > tz then x else tz) := hcs.1
                have HCs := Lib.hid hcs
                have ht1 : (-dv + jn - 1).tdiv jn = x := by rw [hx]; exact Int.tdiv_eq_ediv_of_nonneg (by omega)
                have w1 : IntKind.i64.wrap (-dv) = -dv := IntWalk.i64_in _ (by omega)
                have w2 : IntKind.i64.wrap (-dv + jn) = -dv + jn := IntWalk.i64_in _ (by omega)
                have w3 : IntKind.i64.wrap (-dv + jn - 1) = -dv + jn - 1 := IntWalk.i64_in _ (by omega)
                have w4 : IntKind.i64.wrap x = x := IntWalk.i64_in _ (by omega)
                have hmx := fun W => run_max2z (P := Tryz.prog) #[3, 3] 3 .i64 tz x W
                have hnz : jn ≠ 0 := by omega
                clear hcs hjn hx hj2 hm9
                go_wp2_with fail
                refine HJ.out.mono ?_
                rintro e w5 ⟨rfl, hb5⟩
                have HI5 := Lib.hid (hi3.out.below hb5)
                have e35 : w5.cell? ⟨b, 3, none⟩ = some (.slice (some ⟨gd, 0, none⟩) j capd) := BL.cell HI5.out.1.1.1 3
                obtain ⟨-, -, e15, -, -⟩ := OI.at' HI5.out.1.1.2.2.1 (k := v) (by have := hl.out.dl; omega)
                rw [← HDV.out] at e15
                clear hb5 HJ e1 e3
                go_wp2
                go_roundw
                case rel => exact ⟨v + 1, (if x > tz then x else tz), by omega, by go_num, rfl, hcb0, hcb, HI5.out, HCs.out⟩
                case measure => simp [intOf]; omega
              · have hsk := ceil_skip hct.out (by rw [← HOK.out, ← HDV.out]; omega)
                have HSk := Lib.hid hsk
                clear hsk
                by_cases hok2 : ok = k
                · have hnn : ¬ dv < 0 := fun h => hfar ⟨hok2, h⟩
                  subst hok2
                  clear hfar
                  go_wp2
                  go_roundw
                  case rel => exact ⟨v + 1, tz, by omega, by go_num, rfl, htz0, htz1, hi3.out, HSk.out⟩
                  case measure => simp [intOf]; omega
                · clear hfar
                  go_wp2
                  go_roundw
                  case rel => exact ⟨v + 1, tz, by omega, by go_num, rfl, htz0, htz1, hi3.out, HSk.out⟩
                  case measure => simp [intOf]; omega
            · obtain rfl : v = j := by omega
              have x2 := hi3.out.2.1.cell 0
              by_cases hpt : 0 < tz
              · have hst := lnd_fireQ HE.out HDi.out HM9.out hl.out HN.out hct.out
                obtain ⟨bd1, bs1⟩ := hl.out.bds HE.out HM9.out hk0 htb.2 HEE.out
                obtain ⟨bd2, bs2⟩ := hst.bds HE.out HM9.out (by omega) htb.2 HEE.out
                have HFi := Lib.hid (fire_any b eb v wo.heap.size v gd capd gs caps B ve q es nr tz d s wr HE.out (by omega) (by omega) hi3.out.1.1.1 hi3.out.1.1.2.1 (by omega) he1 he2 hgg hi3.out.1.1.2.2.1 hi3.out.1.1.2.2.2.1 (OV.mono hi3.out.2.2 (by omega)) (by omega) hl.out.dl hl.out.sl HN.out.1
                  (fun j => by have := bd1 j; omega) (fun j => by have := bs1 j; omega) (fun j => by have := bd2 j; omega) (fun j => by have := bs2 j; omega))
                have HSt := Lib.hid hst
                clear hst bd1 bs1 bd2 bs2
                go_wp2_with fail
                refine HFi.out.mono ?_
                rintro e w3 ⟨⟨vv, rfl⟩, hST3, hD3, hS3, hF3⟩
                have HR3 : Hid (LnR b eb v q gd capd gs caps B ve es w w.heap.size g o (fireS nr tz es v d) (addS nr tz v s) w3) :=
                  ⟨⟨hST3, hi3.out.1.1.2.1.fr hF3 (by simp; omega) (by omega), hD3, hS3, hi3.out.1.1.2.2.2.2.trans hF3⟩, OV.fr hi3.out.1.2 hF3 (fun g' hg' => by simp only [Value.ownBlock, Option.some.injEq] at hg'; subst hg'; simp only [List.mem_cons, List.not_mem_nil, or_false]; intro h; rcases h with h | h <;> omega)⟩
                clear hST3 hD3 hS3 hF3 x2
                go_wp2
                go_roundw
                case rel => exact ⟨k - 1, _, _, by go_num, by omega, by omega, HR3.out, HSt.out⟩
                case measure => simp [intOf]; omega
              · obtain rfl : tz = 0 := by omega
                have HSt := Lib.hid (lnd_skipQ HE.out HDi.out HM9.out hl.out HN.out hct.out)
                go_wp2
                go_roundw
                case rel => exact ⟨k - 1, d, s, by go_num, by omega, by omega, hi3.out.1, HSt.out⟩
                case measure => simp [intOf]; omega
    · obtain rfl : k = 0 := by omega
      go_wp2
      refine bodyPost_end (results_none rfl _ _ _) rfl ?_
      exact ⟨⟨_, rfl⟩, o, top, d, s, hr.out.1, HDi.out, htb.2, hl.out⟩
theorem lnd_readyQ {ee : Int} {n q : Nat} {es : List Tri} {zs d1 s1 o : List Int} {top : Int} (hE : Edges n es) (hn : n ≤ 6) (hm : multS es ≤ 9) (hzb : BdQ n q ee zs) (hq : q < n) (hee : -1000 ≤ ee ∧ ee ≤ 1000) (hD : Dist n q es o) (htop : top ≤ 12) (hL : LndQ ee n es o zs top d1 s1 0) :
    (∀ v, v < n → v ≠ q → 0 ≤ d1.getD v 0) ∧ (sumN n fun v => d1.getD v 0) - d1.getD q 0 ≤ 52000 ∧ (-1000000 ≤ d1.getD q 0 ∧ d1.getD q 0 ≤ 1000000) ∧ Bd 1000000 s1 := by
  obtain ⟨b1, b2⟩ := hL.bds hE hm (Int.le_refl _) htop hee
  refine ⟨fun v hv hne => hL.pos v hv ?_, ?_, by have := b1 q; omega, fun j => by have := b2 j; omega⟩
  · obtain ⟨p, hp, he, -⟩ := hD.par v hv hne
    have := (hD.bd p hp).1
    omega
  · have e : (sumN n fun v => d1.getD v 0) = (sumN n fun v => zs.getD v 0) + -(sumN n fun v => lap n (wgt es) (fun u => s1.getD u 0) v) := by
      rw [← sumN_neg, ← sumN_add]
      exact sumN_congr fun v hv => by rw [hL.eq v hv]; omega
    rw [lap_sum (wgt_sym es)] at e
    have hsx : (sumN n fun v => zs.getD v 0) = (sumN n fun v => zs.getD v 0 - (if v = q then ee else 0)) + ee := by
      have e2 : (sumN n fun v => zs.getD v 0) = sumN n fun v => (zs.getD v 0 - (if v = q then ee else 0)) + (if v = q then ee else 0) := sumN_congr fun v _ => by omega
      rw [e2, sumN_add, sumN_one (f := fun v => if v = q then ee else 0) hq fun v _ hne => if_neg hne, if_pos rfl]
    have hb := (sumN_bd (n := n) (f := fun v => zs.getD v 0 - (if v = q then ee else 0)) (B := 100) (fun v hv => hzb v hv)).2
    have h1 := (hL.bd q hq).1
    rw [exQ_at hD hq, if_pos rfl] at h1
    have h9 := pw9 hE hm o 0
    rw [e, hsx]
    omega
/-- What lend and settle leave, joined. -/
theorem red_ofQ {ee : Int} {n q : Nat} {es : List Tri} {zs d1 s1 d s o : List Int} {top : Int} (hE : Edges n es) (hc : Conn n (wgt es)) (hq : q < n) (hn : n ≤ 6) (hm : multS es ≤ 9) (hzb : BdQ n q ee zs) (hee : -1000 ≤ ee ∧ ee ≤ 1000) (hD : Dist n q es o) (htop : top ≤ 12) (hL : LndQ ee n es o zs top d1 s1 0) (hS : Stl n q es d1 s1 d s) (hT : Tight n (wgt es) q (fnD d)) :
    Red n q es zs d (lessL s (s.getD q 0) n) ∧ (∀ v, v < n → -1048576 ≤ d.getD v 0 ∧ d.getD v 0 ≤ 1048576) ∧ (∀ v, v < n → -1048576 ≤ s.getD v 0 - s.getD q 0 ∧ s.getD v 0 - s.getD q 0 ≤ 1048576) := by
  obtain ⟨r1, r2, r3, r4⟩ := lnd_readyQ hE hn hm hzb hq hee hD htop hL
  obtain ⟨b1, b2⟩ := hL.bds hE hm (Int.le_refl _) htop hee
  obtain ⟨t1, t2, t3⟩ := stl_bd hE hc hq hS r1 r2 (by omega)
  have hdb : ∀ v, v < n → -1048576 ≤ d.getD v 0 ∧ d.getD v 0 ≤ 1048576 := fun v hv => by
    by_cases e : v = q
    · subst e
      have := hS.low
      have := b1 v
      omega
    · have := t1 v hv e
      have := hS.pos v hv e
      omega
  have hsb : ∀ v, v < n → -1048576 ≤ s.getD v 0 - s.getD q 0 ∧ s.getD v 0 - s.getD q 0 ≤ 1048576 := fun v hv => by
    have h1 := t3 v hv
    have h2 := hS.up v hv
    have h3 := hL.up v hv
    have h4 := (b2 v).2
    have h5 := hL.up q hq
    have h6 := (b2 q).2
    rw [hS.own]
    omega
  refine ⟨⟨hS.dl, by rw [lessL_len]; exact hS.sl, fun v hv => ?_, ?_, hS.pos, hT, hdb, fun v hv => ?_⟩, hdb, hsb⟩
  · rw [hS.eq v hv, hL.eq v hv, lap_less hS.sl hv]
    have : lap n (wgt es) (fun u => s.getD u 0) v = lap n (wgt es) (fun u => s1.getD u 0) v + lap n (wgt es) (fun u => s.getD u 0 - s1.getD u 0) v := by
      rw [← lap_add]; exact lap_congr hv fun u _ => by omega
    omega
  · rw [lessL_get (by have := hS.sl; omega), if_pos hq]; omega
  · rw [lessL_get (by have := hS.sl; omega), if_pos hv]; exact hsb v hv
theorem ReduceQ_any (g d : Value) (n q : Nat) (es : List Tri) (zs : List Int) (w : World) (hg : GV w g n es) (hd : RI w d zs) (h1 : gcheckE n es = 0) (h2 : connB n es = true) (hq : q < n) (h3 : checkE zs n = 0) (hn : n ≤ 6) (hm : multS es ≤ 9) (ee : Int) (hzb : BdQ n q ee zs) (hee : -1000 ≤ ee ∧ ee ≤ 1000) (hE : Edges n es) (hc : Conn n (wgt es)) :
    Calls Tryz.prog 30 #[g, .int .i64 (q : Int), d] w fun e w' => ∃ vr vs r s, e = .returned (.tuple #[vr, vs, .int .i64 0]) ∧ OI w' w.heap.size vr r ∧ OI w' w.heap.size vs s ∧ Red n q es zs r s ∧ Below w.heap.size w w' := by
  obtain ⟨A, c, rfl, -, -, -⟩ := hg.open_
  obtain ⟨W0, hW0⟩ : ∃ W0, W0 = w.alloc (.cells #[.int .i64 (n : Int), .slice A es.length c] 24) := ⟨_, rfl⟩
  have hb0 : Below w.heap.size w W0 := by rw [hW0]; exact below_alloc w _
  have hz0 : W0.heap.size = w.heap.size + 1 := by rw [hW0]; simp
  have hg0 := hg.below hb0
  have hd0 := hd.below hb0
  have hbx : BL W0 w.heap.size 24 [.int .i64 (n : Int), .slice A es.length c] := by rw [hW0]; exact BL.new' w _ _
  have HGi := rGiven_any _ d n q es zs W0 hg0 hd0
  rw [rGiven_ok h1 h2 hq h3] at HGi
  obtain ⟨-, -, hlen, -⟩ := checkE_ok h3
  have hzl : zs.length = n := by omega
  obtain ⟨ev, hev⟩ := hg0
  simp only [Value.agg.injEq] at hev
  obtain ⟨hve, hEV⟩ := hev
  obtain rfl : ev = .slice A es.length c := by simpa using hve.symm
  obtain ⟨eb, hEB, heb⟩ := hEV.toB (by omega)
  have HG0 := Lib.hid (hg.below hb0)
  have HD0 := Lib.hid hd0
  have HGI := Lib.hid HGi
  have HB0 := Lib.hid hb0
  have HW0 := Lib.hid hW0
  have HBX := Lib.hid hbx
  have HEB := Lib.hid hEB
  have HE := Lib.hid hE
  have HC := Lib.hid hc
  have HZB := Lib.hid hzb
  have HM := Lib.hid hm
  clear hg hd h1 h2 h3 hm hzb hE hc hb0 hW0 hbx hEB HGi hEV hd0 hve
  go_enter Tryz.func30, Tryz.ntmps30
  go_wp2_with fail
  rw [← HW0.out]
  refine HGI.out.mono ?_
  rintro e w1 ⟨rfl, hb1⟩
  have HG1 := HG0.out.below hb1
  have HD1 := HD0.out.below hb1
  have hbx1 := HBX.out.bel hb1
  have c0 := hbx1.cell 0
  have c1 := hbx1.cell 1
  have HBeg := Lib.hid (begin_any _ d n (q : Int) es zs w1 HG1 HD1 hzl (by omega) (by omega))
  have HEB1 := Lib.hid (HEB.out.below hb1)
  have hz1 := hb1.size
  have HB1 := Lib.hid (HB0.out.trans (hb1.mono (by omega)))
  clear hb1 hbx1 HG1 HD1
  go_wp2_with fail
  refine HBeg.out.mono ?_
  rintro e w2 ⟨b, ve, rfl, hge, ⟨gd, capd, gs, caps, hST, hd2, hs2, hgg, hBb, hdl, hsl⟩, hb2⟩
  obtain rfl : Value.slice A es.length c = ve := by simpa using hge
  have hgd := (hd2.1.lt gd rfl)
  have hgs := (hs2.1.lt gs rfl)
  have hz2 := hb2.size
  have hbs : b ≠ gs := BL.ne_own hST hs2 (by decide)
  have HLe := Lib.hid (lendQ_any b eb n q gd capd gs caps w1.heap.size _ es zs w2 HE.out hn hq HC.out HM.out hST (HEB1.out.below hb2) (by omega) (by omega) (by omega) hgg hd2 hs2 hdl HZB.out hee)
  have HB2 := Lib.hid (HB1.out.trans (hb2.mono (by omega)))
  clear hge hST hd2 hs2 hb2 c0 c1
  go_wp2_with fail
  refine HLe.out.mono ?_
  rintro e w3 ⟨⟨vv, rfl⟩, o, top, d1, s1, hR3, hdist, htop, hlnd⟩
  obtain ⟨r1, r2, r3, r4⟩ := lnd_readyQ HE.out hn HM.out HZB.out hq hee hdist htop hlnd
  have hz3 := hR3.2.2.2.2.size
  have HSe := Lib.hid (settle_any b eb n q gd capd gs caps w1.heap.size _ es d1 s1 w3 52000 HE.out (by omega) hq HC.out hR3.1 hR3.2.1 (by omega) (by omega) (by omega) hgg hR3.2.2.1 hR3.2.2.2.1 hlnd.dl hlnd.sl r1 r2 (by omega) r3 r4)
  have HF3 := Lib.hid hR3.2.2.2.2
  have HDi := Lib.hid hdist
  have HLn := Lib.hid hlnd
  clear hR3 r1 r2 r3 r4 hdist hlnd
  go_wp2_with fail
  refine HSe.out.mono ?_
  rintro e w4 ⟨⟨vv2, rfl⟩, d2, s2, hS4, htight⟩
  obtain ⟨hred, hdb, hsb⟩ := red_ofQ HE.out HC.out hq hn HM.out HZB.out hee HDi.out htop HLn.out hS4.2.2.2.2.2 htight
  have HRe := Lib.hid (result_any b eb n q gd capd gs caps w1.heap.size _ es d2 s2 w4 (by omega) hq ⟨hS4.1, hS4.2.1, hS4.2.2.1, hS4.2.2.2.1, Fr.refl _ _⟩ hbs hgg (by omega) hS4.2.2.2.2.2.dl hS4.2.2.2.2.2.sl hdb hsb)
  have HF4 := Lib.hid (HF3.out.trans hS4.2.2.2.2.1)
  have HRd := Lib.hid hred
  clear hS4 htight hred hdb hsb
  go_wp2_with fail
  refine HRe.out.mono ?_
  rintro e w5 ⟨rfl, hR5⟩
  have HR5 := Lib.hid hR5
  clear hR5
  go_wp2
  refine bodyPost_ret (results_tmp3 rfl _ _ _) rfl ?_
  exact ⟨_, _, d2, _, rfl, OV.mono HR5.out.2.2.1 (by omega), OV.mono HR5.out.2.2.2.1 (by omega), HRd.out, (HF4.out.trans HR5.out.2.2.2.2).toBelow HB2.out (by intro b' hb'; simp only [List.mem_cons, List.not_mem_nil, or_false] at hb'; rcases hb' with rfl | rfl <;> omega)⟩
end Go.Proofs.YtjfggodnfoknfaaGreatDoor

namespace Go.Proofs.YtjfggodnfoknfaaGreatDoor
open Go.RowKit Go.Shelf
theorem Rt.reduceQ {n : Nat} {es : List Tri} (h : Rt n es) (g d : Value) (zs : List Int) (ee : Int) (w : World) (hg : GV w g n es) (hd : RI w d zs) (h3 : checkE zs n = 0) (hl : BdQ n 0 ee zs) (hee : -1000 ≤ ee ∧ ee ≤ 1000) :
    Calls Tryz.prog 30 #[g, .int .i64 0, d] w fun e w' => ∃ vr vs r s, e = .returned (.tuple #[vr, vs, .int .i64 0]) ∧ OI w' w.heap.size vr r ∧ OI w' w.heap.size vs s ∧ Red n 0 es zs r s ∧ Below w.heap.size w w' :=
  ReduceQ_any g d n 0 es zs w hg hd h.gc h.cb h.n1 h3 h.n6 h.m9 ee hl hee h.ed h.cn
theorem EquivalentQ_any (g va vb : Value) (n : Int) (es : List Tri) (a b : List Int) (w : World) (hg : GV w g n es) (ha : RI w va a) (hb : RI w vb b) (hs : Sm n es) (hla : Lw n a) (ee : Int) (hee : -1000 ≤ ee ∧ ee ≤ 1000) (hlb : ∀ m : Nat, n = (m : Int) → BdQ m 0 ee b) :
    Calls Tryz.prog 13 #[g, va, vb] w fun e w' => ∃ bb v u er, e = .returned (.tuple #[.bool bb, v, .int .i64 er]) ∧ OI w' w.heap.size v u ∧ Below w.heap.size w w' ∧ EqvP n es a b bb u er := by
  obtain ⟨A, c, rfl, -, -, -⟩ := hg.open_
  obtain ⟨A2, c2, rfl, -, -, -⟩ := ha.open_
  obtain ⟨A3, c3, rfl, -, -, -⟩ := hb.open_
  obtain ⟨W0, hW0⟩ : ∃ W0, W0 = w.alloc (.cells #[.int .i64 n, .slice A es.length c] 24) := ⟨_, rfl⟩
  have hb0 : Below w.heap.size w W0 := by rw [hW0]; exact below_alloc w _
  have hz0 : W0.heap.size = w.heap.size + 1 := by rw [hW0]; simp
  have hbx : BL W0 w.heap.size 24 [.int .i64 n, .slice A es.length c] := by rw [hW0]; exact BL.new' w _ _
  obtain ⟨W1, hW1⟩ : ∃ W1, W1 = W0.alloc (.cells #[.slice A2 a.length c2, .slice A3 b.length c3] 26) := ⟨_, rfl⟩
  have hb1 : Below W0.heap.size W0 W1 := by rw [hW1]; exact below_alloc W0 _
  have hz1 : W1.heap.size = W0.heap.size + 1 := by rw [hW1]; simp
  have hrr : RR W1 (.slice (some ⟨W0.heap.size, 0, none⟩) 2 2) [a, b] := by rw [hW1]; exact RR.lit2 26 (ha.below hb0) (hb.below hb0)
  rw [hz0] at hrr
  have HGi := Lib.hid (eGiven_any _ _ n es [a, b] W1 ((hg.below hb0).below hb1) hrr)
  have c00 := hbx.cell 0
  have c01 := hbx.cell 1
  have HG1 := Lib.hid ((hg.below hb0).below hb1)
  have HA1 := Lib.hid (RI.below (RI.below ha hb0) hb1)
  have HB1 := Lib.hid (RI.below (RI.below hb hb0) hb1)
  have HX1 := Lib.hid (hbx.bel hb1)
  have HW0 := Lib.hid hW0
  have HW1 := Lib.hid hW1
  have HBe := Lib.hid (hb0.trans (hb1.mono (by omega)))
  have HSm := Lib.hid hs
  have HLa := Lib.hid hla
  have HLb := Lib.hid hlb
  have HEe := Lib.hid hee
  clear hg ha hb hb0 hb1 hbx hrr hs hla hlb hee hW1
  rw [hW0] at c00 c01
  clear hW0
  by_cases h0 : eGiven n es [a, b] = 0
  · rw [h0] at HGi
    obtain ⟨g1, g2, g3⟩ := eGiven_ok h0
    obtain ⟨m, rfl, hrt⟩ := rt_of HSm.out g1 g2
    have HC1 := Lib.hid (g3 a (by simp))
    have HC2 := Lib.hid (g3 b (by simp))
    have HRt := Lib.hid hrt
    have H0 := Lib.hid h0
    clear g1 g2 g3 hrt h0
    go_enter Tryz.func13, Tryz.ntmps13
    go_wp2_with fail
    rw [← HW0.out, ← HW1.out]
    refine HGi.out.mono ?_
    rintro e w1 ⟨rfl, hb1⟩
    have HG2 := Lib.hid (HG1.out.below hb1)
    have HA2 := Lib.hid (RI.below HA1.out hb1)
    have HB2 := Lib.hid (RI.below HB1.out hb1)
    have HX2 := Lib.hid (HX1.out.bel hb1)
    have HBe2 := Lib.hid (HBe.out.trans (hb1.mono HBe.out.size))
    have c10 := HX2.out.cell 0
    have c11 := HX2.out.cell 1
    have HR1 := Lib.hid (HRt.out.reduce _ _ a w1 HG2.out HA2.out HC1.out HLa.out)
    clear hb1 c00 c01
    go_wp2_with fail
    refine HR1.out.mono ?_
    rintro e w2 ⟨vr1, vs1, r1, s1, rfl, ho1, hp1, hd1, hb2⟩
    have HG3 := Lib.hid (HG2.out.below hb2)
    have HB3 := Lib.hid (RI.below HB2.out hb2)
    have HX3 := Lib.hid (HX2.out.bel hb2)
    have HBe3 := Lib.hid (HBe2.out.trans (hb2.mono HBe2.out.size))
    have c20 := HX3.out.cell 0
    have c21 := HX3.out.cell 1
    have HR2 := Lib.hid (HRt.out.reduceQ _ _ b ee w2 HG3.out HB3.out HC2.out (HLb.out m rfl) HEe.out)
    have HO1 := Lib.hid ho1
    have HP1 := Lib.hid hp1
    have HD1 := Lib.hid hd1
    clear hb2 c10 c11 ho1 hp1 hd1 HR1
    go_wp2_with fail
    refine HR2.out.mono ?_
    rintro e w3 ⟨vr2, vs2, r2, s2, rfl, ho2, hp2, hd2, hb3⟩
    have HO1' := Lib.hid (OI.below HO1.out hb3)
    have HP1' := Lib.hid (OI.below HP1.out hb3)
    have HBe4 := Lib.hid (HBe3.out.trans (hb3.mono HBe3.out.size))
    have HEq := Lib.hid (EqualD_any _ _ r1 r2 w3 HO1'.out.rv ho2.rv)
    have HP2 := Lib.hid hp2
    have HD2 := Lib.hid hd2
    clear hb3 c20 c21 ho2 hp2 hd2 HR2
    by_cases hrr : r1 = r2
    · rw [(eqL_iff _ _).2 hrr] at HEq
      have HRR := Lib.hid hrr
      have hl1 := HD1.out.sl
      have hl2 := HD2.out.sl
      have h6 := HRt.out.n6
      have hb1 : ∀ k, k < s1.length → -1048576 ≤ s1.getD k 0 ∧ s1.getD k 0 ≤ 1048576 := fun k hk => HD1.out.sb k (by omega)
      have hb2 : ∀ k, k < s1.length → -1048576 ≤ s2.getD k 0 ∧ s2.getD k 0 ≤ 1048576 := fun k hk => HD2.out.sb k (by omega)
      have HEa := fun j => eachS_any vs1 vs2 _ s1 s2 Mid _ (w3.drewN j) (OV.rv (OV.below HP1'.out (below_drewN (Below.refl _ _) j))) (OV.rv (OV.below HP2.out (below_drewN (Below.refl _ _) j))) (by omega) (by omega) (fun k hk => ⟨by have := hb1 k hk; omega, by have := hb1 k hk; omega, by have := hb2 k hk; omega, by have := hb2 k hk; omega⟩) (subD_clo _)
      have hzl : (List.zipWith (fun x y => x - y) s1 s2).length ≤ 100 := by simp; omega
      have hzb : Bd 10000000 (List.zipWith (fun x y => x - y) s1 s2) := fun j => by
        rw [List.getD_eq_getElem?_getD]
        by_cases hj : j < (List.zipWith (fun x y : Int => x - y) s1 s2).length
        · rw [List.getElem?_eq_getElem hj]
          simp only [List.getElem_zipWith, Option.getD_some]
          simp only [List.length_zipWith] at hj
          have a1 := hb1 j (by omega)
          have a2 := hb2 j (by omega)
          rw [List.getD_eq_getElem?_getD, List.getElem?_eq_getElem (by omega)] at a1 a2
          simp only [Option.getD_some] at a1 a2
          omega
        · rw [List.getElem?_eq_none (by omega)]; simp
      have HEA := Lib.hid HEa
      have HZL := Lib.hid hzl
      have HZB := Lib.hid hzb
      clear HEa hzl hzb hb1 hb2 hl1 hl2 h6 hrr
      go_wp2_with fail
      refine HEq.out.mono ?_
      rintro e w4 ⟨rfl, j, rfl⟩
      go_wp2_with fail
      refine (HEA.out j).mono ?_
      rintro e w5 ⟨v5, rfl, ho5, hb5⟩
      have HLe := Lib.hid (least_any v5 _ w5 ho5.rv HZL.out HZB.out)
      have HBe5 := Lib.hid ((below_drewN HBe4.out j).trans (hb5.mono HBe4.out.size))
      clear ho5 hb5
      go_wp2_with fail
      refine HLe.out.mono ?_
      rintro e w6 ⟨v6, rfl, ho6, hb6⟩
      have HO6 := Lib.hid ho6
      have HB6 := Lib.hid hb6
      clear ho6 hb6
      go_wp2
      refine bodyPost_ret (results_tmp3 rfl _ _ _) rfl ?_
      exact ⟨true, v6, _, 0, rfl, OV.mono HO6.out HBe5.out.size, HBe5.out.trans (HB6.out.mono HBe5.out.size), .inr ⟨H0.out, rfl, m, r1, s1, r2, s2, rfl, HRt.out, HD1.out, HD2.out, by simp [HRR.out], by rw [if_pos HRR.out]⟩⟩
    · rw [Bool.eq_false_iff.2 (fun h => hrr ((eqL_iff _ _).1 h))] at HEq
      have HRR := Lib.hid hrr
      clear hrr
      go_wp2_with fail
      refine HEq.out.mono ?_
      rintro e w4 ⟨rfl, j, rfl⟩
      go_wp2
      refine bodyPost_ret (results_tmp3 rfl _ _ _) rfl ?_
      exact ⟨false, _, [], 0, rfl, OI.nil_ _ _, below_drewN HBe4.out j, .inr ⟨H0.out, rfl, m, r1, s1, r2, s2, rfl, HRt.out, HD1.out, HD2.out, by simp [HRR.out], by rw [if_neg HRR.out]⟩⟩
  · have hne : (eGiven n es [a, b] != 0) = true := by simpa using h0
    have H0 := Lib.hid h0
    obtain ⟨ge, hge⟩ : ∃ ge, ge = eGiven n es [a, b] := ⟨_, rfl⟩
    rw [← hge] at HGi hne h0
    have HGE := Lib.hid hge
    clear hge
    go_enter Tryz.func13, Tryz.ntmps13
    go_wp2_with fail
    rw [← HW0.out, ← HW1.out]
    refine HGi.out.mono ?_
    rintro e w1 ⟨rfl, hb1⟩
    have HBe2 := Lib.hid (HBe.out.trans (hb1.mono HBe.out.size))
    clear hb1 c00 c01
    go_wp2
    refine bodyPost_ret (results_tmp3 rfl _ _ _) rfl ?_
    exact ⟨false, _, [], ge, rfl, OI.nil_ _ _, HBe2.out, .inl ⟨H0.out, rfl, rfl, HGE.out⟩⟩
end Go.Proofs.YtjfggodnfoknfaaGreatDoor

namespace Go.Proofs.YtjfggodnfoknfaaGreatDoor
open Go.RowKit Go.Shelf

def p10 : Nat → Int
  | 0 => 1
  | k + 1 => 10 * p10 k
theorem p10_pos (k : Nat) : 1 ≤ p10 k := by
  induction k with
  | zero => simp [p10]
  | succ k ih => rw [p10]; omega
theorem p10_mono {a b : Nat} (h : a ≤ b) : p10 a ≤ p10 b := by
  induction b with
  | zero => rw [show a = 0 by omega]; exact Int.le_refl _
  | succ b ih =>
    by_cases e : a = b + 1
    · rw [e]; exact Int.le_refl _
    · have := ih (by omega)
      have := p10_pos b
      rw [p10]; omega
def dval : List Int → Int
  | [] => 0
  | d :: r => d + 10 * dval r
def Dig (l : List Int) : Prop := ∀ k, 0 ≤ l.getD k 0 ∧ l.getD k 0 ≤ 9
def Can (l : List Int) : Prop := l = [] ∨ l.getD (l.length - 1) 0 ≠ 0
theorem Dig.tail {d : Int} {r : List Int} (h : Dig (d :: r)) : (0 ≤ d ∧ d ≤ 9) ∧ Dig r := ⟨by simpa using h 0, fun k => by simpa using h (k + 1)⟩
theorem dig_nil : Dig [] := fun k => by simp
theorem Dig.snoc {l : List Int} {d : Int} (h : Dig l) (h0 : 0 ≤ d) (h9 : d ≤ 9) : Dig (l ++ [d]) := fun k => by
  rcases Nat.lt_trichotomy k l.length with c | c | c
  · rw [List.getD_eq_getElem?_getD, List.getElem?_append_left c, ← List.getD_eq_getElem?_getD]; exact h k
  · rw [List.getD_eq_getElem?_getD, List.getElem?_append_right (by omega), c]; simp; omega
  · rw [List.getD_eq_getElem?_getD, List.getElem?_append_right (by omega), List.getElem?_eq_none (by simp; omega)]; simp
theorem Dig.take {l : List Int} (h : Dig l) (n : Nat) : Dig (l.take n) := fun k => by
  by_cases c : k < n
  · rw [List.getD_eq_getElem?_getD, List.getElem?_take_of_lt c, ← List.getD_eq_getElem?_getD]; exact h k
  · rw [List.getD_eq_getElem?_getD, List.getElem?_eq_none (by simp; omega)]; simp
theorem dval_bd {l : List Int} (h : Dig l) : 0 ≤ dval l ∧ dval l < p10 l.length := by
  induction l with
  | nil => simp [dval, p10]
  | cons d r ih =>
    obtain ⟨h1, h2⟩ := h.tail
    have := ih h2
    simp only [dval, List.length_cons, p10]
    omega
theorem dval_append (a b : List Int) : dval (a ++ b) = dval a + p10 a.length * dval b := by
  induction a with
  | nil => simp [dval, p10]
  | cons d r ih => simp only [List.cons_append, dval, ih, List.length_cons, p10]; grind
theorem dval_snoc (l : List Int) (d : Int) : dval (l ++ [d]) = dval l + p10 l.length * d := by rw [dval_append]; simp [dval]
theorem dval_split (l : List Int) {k : Nat} (hk : k ≤ l.length) : dval l = dval (l.take k) + p10 k * dval (l.drop k) := by
  have := dval_append (l.take k) (l.drop k)
  rw [List.take_append_drop, List.length_take, Nat.min_eq_left hk] at this
  exact this
theorem can_ge {l : List Int} (h : Dig l) (hc : Can l) (hl : l ≠ []) : p10 (l.length - 1) ≤ dval l := by
  have hlen : 0 < l.length := List.length_pos_iff.2 hl
  have h1 := dval_split l (k := l.length - 1) (by omega)
  have h2 := (dval_bd (h.take (l.length - 1))).1
  have h3 : l.drop (l.length - 1) = [l.getD (l.length - 1) 0] := by
    rw [List.drop_eq_getElem_cons (by omega), List.drop_eq_nil_of_le (by omega), List.getD_eq_getElem?_getD, List.getElem?_eq_getElem (by omega)]; rfl
  have h4 := h (l.length - 1)
  have h5 : l.getD (l.length - 1) 0 ≠ 0 := by
    rcases hc with hc | hc
    · exact absurd hc hl
    · exact hc
  rw [h3] at h1
  simp only [dval] at h1
  generalize l.getD (l.length - 1) 0 = z at *
  have h6 := Int.mul_le_mul_of_nonneg_left (show (1 : Int) ≤ z + 10 * 0 by omega) (show 0 ≤ p10 (l.length - 1) by have := p10_pos (l.length - 1); omega)
  omega
theorem can_len {l : List Int} (h : Dig l) (hc : Can l) {k : Nat} (hk : dval l < p10 k) : l.length ≤ k := by
  by_cases e : l = []
  · rw [e]; simp
  · have h1 := can_ge h hc e
    apply Classical.byContradiction
    intro hn
    have := p10_mono (a := k) (b := l.length - 1) (by omega)
    omega
/-- Text of digits. -/
def chrs (l : List Int) : List UInt8 := l.reverse.map fun d => UInt8.ofNat (48 + d).toNat
def textL (l : List Int) (m : Bool) : List UInt8 := if l = [] then [48] else if m then 45 :: chrs l else chrs l
def sgZ (l : List Int) (m : Bool) : Int := if m then - dval l else dval l
/-- A value that is the text of a canonical integer. -/
def ZS (v : Value) (z : Int) : Prop := ∃ (l : List Int) (m : Bool), v = .string ⟨(textL l m).toArray⟩ ∧ Dig l ∧ Can l ∧ (l = [] → m = false) ∧ z = sgZ l m
def B15 (z : Int) : Prop := -1000000000000000 < z ∧ z < 1000000000000000
theorem p15 : p10 15 = 1000000000000000 := by decide
theorem chr_nat {d : Int} (h0 : 0 ≤ d) (h9 : d ≤ 9) : (UInt8.ofNat (48 + d).toNat).toNat = (48 + d).toNat := by
  rw [UInt8.toNat_ofNat']; exact Nat.mod_eq_of_lt (by omega)
end Go.Proofs.YtjfggodnfoknfaaGreatDoor

namespace Go.Proofs.YtjfggodnfoknfaaGreatDoor
open Go.RowKit Go.Shelf

theorem OI.snoc {w W : World} {o : Value} {out : List Int} (h : OI W w.heap.size o out) (z : Int) (hb : Below w.heap.size w W) :
    OV (W.alloc (.cells #[.int .i64 z] 3)) w.heap.size 3 o (out.map (Value.int .i64)) ∧ RV (W.alloc (.cells #[.int .i64 z] 3)) (.slice (some ⟨W.heap.size, 0, none⟩) 1 1) [.int .i64 z] ∧
      ∀ v1 w3, OV w3 w.heap.size 3 v1 (out.map (Value.int .i64) ++ [.int .i64 z]) → (W.alloc (.cells #[.int .i64 z] 3)).grownBy w3 o.ownBlock → OI w3 w.heap.size v1 (out ++ [z]) ∧ Below w.heap.size w w3 := by
  have hba := below_alloc W (.cells #[.int .i64 z] 3)
  have hov := OV.below h hba
  refine ⟨hov, RV.ones W _ _, fun v1 w3 hown hg => ⟨?_, ?_⟩⟩
  · show OV _ _ _ _ _
    simpa using hown
  · exact below_own (hb.trans (hba.mono hb.size)) (by have := hb.size; have := hba.size; omega) hov hg
theorem len_append1 (out : List Int) (z : Int) : (out ++ [z]).length = out.length + 1 := by simp
end Go.Proofs.YtjfggodnfoknfaaGreatDoor

namespace Go.Proofs.YtjfggodnfoknfaaGreatDoor
open Go.RowKit Go.Shelf

theorem getD_of {a : List Int} {j : Nat} {x : Int} (h : a[j]? = some x) : a.getD j 0 = x := by rw [List.getD_eq_getElem?_getD, h]; rfl
end Go.Proofs.YtjfggodnfoknfaaGreatDoor

namespace Go.Proofs.YtjfggodnfoknfaaGreatDoor
open Go.RowKit Go.Shelf

theorem getD_snoc_last (l : List Int) (d : Int) : (l ++ [d]).getD l.length 0 = d := by rw [List.getD_eq_getElem?_getD, List.getElem?_append_right (Nat.le_refl _)]; simp
theorem rem_at {s : Int} (h : 0 ≤ s) : s.tmod 10 = s % 10 := Int.tmod_eq_emod_of_nonneg h
theorem quo_at {s : Int} (h : 0 ≤ s) : s.tdiv 10 = s / 10 := Int.tdiv_eq_ediv_of_nonneg h
end Go.Proofs.YtjfggodnfoknfaaGreatDoor

namespace Go.Proofs.YtjfggodnfoknfaaGreatDoor
open Go.RowKit Go.Shelf

theorem chrs_succ {l : List Int} {i : Nat} {d : Int} (h : l[i]? = some d) : chrs (l.take (i + 1)) = UInt8.ofNat (48 + d).toNat :: chrs (l.take i) := by
  unfold chrs
  rw [List.take_add_one, h]
  simp
theorem zText_any (va : Value) (l : List Int) (m : Bool) (w : World) (ha : RI w va l) (hd : Dig l) (hl : l.length ≤ 1000) :
    Calls Tryz.prog 31 #[va, .bool m] w fun e w' => e = .returned (.string ⟨(textL l m).toArray⟩) ∧ Below w.heap.size w w' := by
  obtain ⟨A, c, rfl, -, -, hcell⟩ := ha.open_
  have HC := Lib.hid hcell
  have HD := Lib.hid hd
  clear ha hd hcell
  by_cases h0 : l = []
  · subst h0
    go_enter Tryz.func31, Tryz.ntmps31
    go_wp2
    go_ret
    exact ⟨rfl, Below.refl _ _⟩
  · have hlen : 1 ≤ l.length := List.length_pos_iff.2 h0
    have hne : ((l.length : Int) == 0) = false := by rw [beq_eq_false_iff_ne]; omega
    have H0 := Lib.hid h0
    clear h0
    go_enter Tryz.func31, Tryz.ntmps31
    go_wp2_with fail
    go_loopw [5, 6] (fun s ii wr => ∃ i : Nat, s = .string ⟨(chrs (l.take i)).toArray⟩ ∧ ii = .int .i64 (i : Int) ∧ i ≤ l.length ∧ Hid (Below w.heap.size w wr)) (fun _ i _ => l.length - (intOf i).toNat)
    case atStart => exact ⟨0, rfl, rfl, Nat.zero_le _, Below.refl _ _⟩
    case round =>
      obtain ⟨i, rfl, rfl, hi, hb⟩ := hrel
      by_cases hlt : i < l.length
      · obtain ⟨ad, d, rfl, hadb, hx, hcl⟩ := HC.out i hlt
        have hcw := (hb.out.cell (by rw [block_of_add]; exact hadb)).trans hcl
        have hd9 := HD.out i
        rw [getD_of hx.out] at hd9
        have hcs := chrs_succ hx.out
        have HCs := Lib.hid hcs
        have hw8 : IntKind.u8.wrap (48 + d) = 48 + d := by simp (disch := omega) only [IntWalk.u8_in]
        have hcv := run_convert_bytes_back (P := Tryz.prog) (wr.alloc (.cells #[.int .u8 (48 + d)] 5)) 93 9 5 ⟨wr.heap.size, 0, none⟩ 1 [UInt8.ofNat (48 + d).toNat] Tryz.underlying93 Tryz.underlying5 Tryz.underlying9 (fun j hj => by
          simp only [List.length_singleton] at hj
          obtain rfl : j = 0 := by omega
          have e : ((UInt8.ofNat (48 + d).toNat).toNat : Int) = 48 + d := by rw [chr_nat hd9.1 hd9.2]; omega
          have hc1 := (show BL (wr.alloc (.cells #[.int .u8 (48 + d)] 5)) wr.heap.size 5 [.int .u8 (48 + d)] from BL.new' wr _ _).cell 0
          rw [show ((⟨wr.heap.size, 0, none⟩ : Addr).add 0) = ⟨wr.heap.size, 0, none⟩ from rfl, hc1]
          show some (Value.int .u8 (48 + d)) = some (.int .u8 ((UInt8.ofNat (48 + d).toNat).toNat : Int))
          rw [e])
        have hsl : (chrs (l.take i)).length ≤ 1000 := by unfold chrs; simp; omega
        have hadd := fun W => run_string_add_lists (P := Tryz.prog) W [UInt8.ofNat (48 + d).toNat] (chrs (l.take i)) (by simp) (by omega)
        simp only [List.length_singleton] at hcv
        rw [← List.singleton_append] at hcs
        rw [← hcs] at hadd
        have hba := below_alloc wr (.cells #[.int .u8 (48 + d)] 5)
        have HB2 := Lib.hid (hb.out.trans (hba.mono hb.out.size))
        have HS2 : Hid (ByteArray.mk (chrs (l.take (i + 1))).toArray = ByteArray.mk (chrs (l.take (i + 1))).toArray) := rfl
        clear hcl hcs hsl hba HCs
        generalize ByteArray.mk (chrs (l.take i)).toArray = S1 at *
        generalize hs2 : ByteArray.mk (chrs (l.take (i + 1))).toArray = S2 at *
        generalize ByteArray.mk [UInt8.ofNat (48 + d).toNat].toArray = B1 at *
        have HS3 := Lib.hid hs2
        clear hs2 HS2
        go_wp2
        go_roundw
        case rel => exact ⟨i + 1, by rw [← HS3.out], by go_num, by omega, HB2.out⟩
        case measure => simp [intOf] <;> omega
      · obtain rfl : i = l.length := by omega
        have HT : Hid (textL l m = if m then 45 :: chrs l else chrs l) := by show _ = _; unfold textL; rw [if_neg H0.out]
        rw [List.take_of_length_le (Nat.le_refl _)]
        have hsl : (chrs l).length ≤ 1000 := by unfold chrs; simp; omega
        have hadd := fun W => run_string_add_lists (P := Tryz.prog) W [45] (chrs l) (by simp) (by omega)
        rw [List.singleton_append] at hadd
        clear hsl
        cases m
        · have HS1 : Hid (ByteArray.mk (textL l false).toArray = ByteArray.mk (chrs l).toArray) := by show _ = _; rw [HT.out, if_neg (by decide)]
          clear hadd HT
          generalize ByteArray.mk (chrs l).toArray = S1 at *
          go_wp2
          go_ret
          exact ⟨by rw [HS1.out]; rfl, hb.out⟩
        · have HS1 : Hid (ByteArray.mk (textL l true).toArray = ByteArray.mk (45 :: chrs l).toArray) := by show _ = _; rw [HT.out, if_pos rfl]
          have h45 : ByteArray.mk [45].toArray = ByteArray.mk #[45] := rfl
          rw [h45] at hadd
          clear HT h45
          generalize ByteArray.mk (chrs l).toArray = S1 at *
          generalize ByteArray.mk (45 :: chrs l).toArray = S2 at *
          go_wp2
          go_ret
          exact ⟨by rw [HS1.out]; rfl, hb.out⟩
end Go.Proofs.YtjfggodnfoknfaaGreatDoor

namespace Go.Proofs.YtjfggodnfoknfaaGreatDoor
open Go.RowKit Go.Shelf

theorem zs_text {l : List Int} {m : Bool} (hd : Dig l) (hc : Can l) : ZS (.string ⟨(textL l m).toArray⟩) (sgZ l m) := by
  by_cases e : l = []
  · subst e
    exact ⟨[], false, by simp [textL], hd, hc, fun _ => rfl, by cases m <;> simp [sgZ, dval]⟩
  · exact ⟨l, m, rfl, hd, hc, fun h => absurd h e, rfl⟩
end Go.Proofs.YtjfggodnfoknfaaGreatDoor

