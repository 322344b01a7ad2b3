/- Contract of the checker's accepted.
   Contract of the checker's Accept.
   Contract of the checker's Prefix.
   Contract of the checker's Facts.
   The examples of the chapter, computed.
   Contracts of slices.Equal at texts, and of the reference's Same and long.
   The law's long and awake. -/
import Derived.Test.YtgcnijmmjlfabaaGreatDoorK21
set_option maxRecDepth 100000
set_option maxHeartbeats 16000000
namespace Go.Proofs.YtgcnijmmjlfabaaGreatDoor
open Go.RowKit Go.Shelf

/-- The first entry of which f is not 0, and f there. -/
def badF {α : Type} (f : α → Int) (k : Nat) : List α → Int × Int
  | [] => (0, 0)
  | x :: r => if f x ≠ 0 then ((k : Int), f x) else badF f (k + 1) r
def hd0 (s : List UInt8) : List UInt8 := (linesV s).getD 0 []
def accF (s : List UInt8) : List UInt8 → Int := lineE (hdN (hd0 s)).toNat (hdT (hd0 s))
/-- What accepted answers. -/
def accP (s : List UInt8) : Int × Int := if linesE s ≠ 0 then (linesN s, linesE s) else if hdE (hd0 s) ≠ 0 then (0, hdE (hd0 s)) else badF (accF s) 1 ((linesV s).drop 1)
theorem lines_len {s : List UInt8} (h : linesE s = 0) : 1 ≤ (linesV s).length := by
  unfold linesE at h
  split at h
  · cases h
  · split at h
    · cases h
    · rename_i h2
      unfold tornB at h2
      unfold linesV
      have := List.length_pos_iff.2 (splitL_ne 10 s)
      simp at h2
      rw [List.length_take]
      omega
theorem lines_mem {s x : List UInt8} (h : x ∈ linesV s) : x.length ≤ s.length := splitL_part 10 s x (List.mem_of_mem_take h)
theorem lines_s {s : List UInt8} (h : linesE s = 0) : s.length ≤ 65536 := by
  unfold linesE at h
  split at h
  · cases h
  · omega
theorem kAcc_any (s : List UInt8) (w : World) (hlv : LV w) (h6 : linesE s = 0 → hdE (hd0 s) = 0 → hdN (hd0 s) ≤ 6) :
    Calls Tryz.prog 29 #[strV s] w fun e w' => ∃ v, e = .returned (.tuple #[v, .int .i64 (accP s).1, .int .i64 (accP s).2]) ∧ ((accP s).2 = 0 → RS w' v ((linesV s).drop 1)) ∧ Below w.heap.size w w' := by
  have HLi := Lib.hid (kLines_any s w hlv)
  have HLV := Lib.hid hlv
  by_cases h1 : linesE s ≠ 0
  · have hR : accP s = (linesN s, linesE s) := by unfold accP; rw [if_pos h1]
    rw [hR]
    have hne : Hid (linesE s ≠ 0) := h1
    have t1 : (linesE s != 0) = true := by simpa using h1
    generalize linesE s = E at *
    generalize linesN s = N at *
    generalize linesV s = V at *
    clear h1 hR h6 hlv
    go_enter Tryz.func29, Tryz.ntmps29
    go_wp2_with fail
    refine HLi.out.mono ?_
    rintro e w1 ⟨v1, rfl, -, hb1⟩
    have HB1 := Lib.hid hb1
    clear hb1 HLi
    go_wp2
    go_ret3
    exact ⟨.slice none 0 0, rfl, fun h => absurd h hne.out, HB1.out⟩
  have h10 : linesE s = 0 := by omega
  have hsl := lines_s h10
  have hln := lines_len h10
  have HM : Hid (∀ x ∈ linesV s, x.length ≤ 65536) := fun x hx => Nat.le_trans (lines_mem hx) hsl
  have hR : Hid (accP s = if hdE (hd0 s) ≠ 0 then (0, hdE (hd0 s)) else badF (accF s) 1 ((linesV s).drop 1)) := by show _ = _; unfold accP; rw [if_neg h1]
  have HF : Hid (accF s = lineE (hdN (hd0 s)).toNat (hdT (hd0 s))) := rfl
  have hN0 : linesN s = 0 := by
    unfold linesE at h10
    unfold linesN
    split at h10
    · cases h10
    · split at h10
      · cases h10
      · rename_i h2 h3; rw [if_neg h2, if_neg h3]
  have h0m : hd0 s ∈ linesV s := by unfold hd0; rw [List.getD_eq_getElem?_getD, List.getElem?_eq_getElem (show 0 < (linesV s).length by omega)]; exact List.getElem_mem _
  have hhd : (hd0 s).length ≤ 65536 := HM.out _ h0m
  have h0e : hd0 s = (linesV s).getD 0 [] := rfl
  have HHd : Hid (∀ W : World, LV W → Calls Tryz.prog 34 #[strV ((linesV s).getD 0 [])] W fun e w' => ∃ v, e = .returned (.tuple #[v, .int .i64 (hdE (hd0 s))]) ∧ (hdE (hd0 s) = 0 → GX w' v (hdN (hd0 s)).toNat (hdT (hd0 s))) ∧ Below W.heap.size W w') := fun W h => by rw [← h0e]; exact kHead_any (hd0 s) W h (by omega)
  have HOK : Hid (hdE (hd0 s) = 0 → ∃ m : Nat, hdN (hd0 s) = m ∧ 1 ≤ m ∧ m ≤ 6 ∧ Edges m (hdT (hd0 s))) := fun h => by
    have h7 := h6 h10 h
    unfold hdE at h
    split at h
    · cases h
    · split at h
      · rename_i hh; exact absurd h hh
      · obtain ⟨hgc, -⟩ := ofE_ok h
        obtain ⟨m, hm0, hm1, -, hE⟩ := gcheckE_zero hgc
        exact ⟨m, hm0, hm1, by omega, hE⟩
  rw [h10, hN0] at HLi
  generalize accP s = AP at *
  generalize hdE (hd0 s) = E at *
  generalize hdN (hd0 s) = n at *
  generalize hdT (hd0 s) = es at *
  generalize accF s = f at *
  clear h6 h1 hN0 h0m hhd h0e h10 hsl hlv
  generalize linesV s = ls at *
  go_enter Tryz.func29, Tryz.ntmps29
  go_wp2_with fail
  refine HLi.out.mono ?_
  rintro e w1 ⟨v1, rfl, hr1, hb1⟩
  have hr1' := hr1 trivial
  obtain ⟨A, c, rfl, hlc, hcl⟩ := hr1'.open_
  obtain ⟨ad, rfl, had, hc0⟩ := hcl 0 (by omega)
  rw [add_zero'] at hc0
  have HR1 := Lib.hid hr1'
  have HB1 := Lib.hid hb1
  have HHd1 := Lib.hid (HHd.out w1 (HLV.out.below hb1))
  have hl0 : (0 : Int) < (ls.length : Int) := by omega
  clear hr1 hr1' hb1 HHd HLi hcl
  go_wp2_with fail
  refine HHd1.out.mono ?_
  rintro e w2 ⟨v2, rfl, hg2, hb2⟩
  have HB2 := Lib.hid (HB1.out.trans (hb2.mono HB1.out.size))
  have HG2 := Lib.hid hg2
  have HR2 := Lib.hid (HR1.out.below hb2)
  clear hg2 hb2 HHd1 HR1
  by_cases hE : E ≠ 0
  · have hR1 : Hid (AP = (0, E)) := by show _ = _; rw [hR.out, if_pos hE]
    have hne : Hid (AP.2 ≠ 0) := by show _ ≠ _; rw [hR1.out]; exact hE
    have t1 : (E != 0) = true := by simpa using hE
    clear hE hR HOK
    go_wp2
    go_ret3
    exact ⟨.slice none 0 0, by rw [hR1.out]; rfl, fun h => absurd h hne.out, HB2.out⟩
  have hE0 : E = 0 := by omega
  obtain ⟨m, rfl, hm1, hm6, hEd⟩ := HOK.out hE0
  have hR1 : Hid (AP = badF f 1 (ls.drop 1)) := by show _ = _; rw [hR.out, if_neg hE]
  have HGX := Lib.hid (HG2.out hE0)
  have HEd := Lib.hid hEd
  rw [hE0]
  have hs1 := RS.sub (i := 1) (j := ls.length) HR2.out (by omega) (by omega)
  rw [List.take_of_length_le (Nat.le_refl _)] at hs1
  have hlen : (ls.drop 1).length = ls.length - 1 := by simp
  clear hE hE0 hR HOK HG2 hEd hc0 HB1
  by_cases hc1 : c = 1
  · subst hc1
    have h1l : ls.length = 1 := by omega
    have h0l : ls.drop 1 = [] := List.length_eq_zero_iff.1 (by rw [hlen, h1l])
    have HS0 : Hid (RS w2 (.slice (some ad) 0 0) (ls.drop 1)) := by
      show RS _ _ _
      rw [if_pos rfl, h1l] at hs1
      exact hs1
    have hAP : Hid (AP = (0, 0)) := by show _ = _; rw [hR1.out, h0l]; rfl
    rw [h1l]
    clear hs1 hlen hlc h1l h0l hR1 hl0 hln
    go_wp2_with fail
    go_loopw [35] (fun i wr => i = .int .i64 0 ∧ wr = w2) (fun _ _ => 1)
    case atStart => exact ⟨rfl, rfl⟩
    case round =>
      obtain ⟨rfl, rfl⟩ := hrel
      go_wp2
      go_ret3
      exact ⟨_, by rw [hAP.out]; rfl, fun _ => HS0.out, HB2.out⟩
  · have hc2 : 1 < c := by omega
    rw [if_neg hc1, show ad.add 1 = ⟨ad.block, ad.off + 1, none⟩ by simp [Addr.add]] at hs1
    have HS0 := Lib.hid hs1
    obtain ⟨A', c', he, hlc', hcl'⟩ := hs1.open_
    simp only [Value.slice.injEq] at he
    obtain ⟨rfl, hl', rfl⟩ := he
    rw [hlen] at hcl' hlc'
    have HCl := Lib.hid hcl'
    have hll : (ls.length : Int) - 1 = ((ls.length - 1 : Nat) : Int) := by omega
    have HD : Hid (∀ (k : Nat) (x : List UInt8), (ls.drop 1)[k]? = some x → x.length ≤ 65536) := fun k x h => HM.out x (List.mem_of_mem_drop (List.mem_of_getElem? h))
    have hlb : ls.length ≤ 17592186044415 := by
      obtain ⟨_, _, _, _, hq, _⟩ := HR2.out
      simpa using hq
    have HLe := Lib.hid hlen
    clear hs1 hcl' hlen hl' hc1
    go_wp2_with fail
    go_loopw [35] (fun i wr => ∃ k : Nat, k ≤ ls.length - 1 ∧ i = .int .i64 (k : Int) ∧ Hid (badF f 1 (ls.drop 1) = badF f (k + 1) ((ls.drop 1).drop k)) ∧ Hid (Below w2.heap.size w2 wr)) (fun i _ => (ls.length - 1) - (intOf i).toNat)
    case atStart => exact ⟨0, Nat.zero_le _, rfl, rfl, Below.refl _ _⟩
    case round =>
      obtain ⟨k, hk, rfl, hb, hw⟩ := hrel
      by_cases hlt : k < ls.length - 1
      · obtain ⟨_, e0, hab, hck⟩ := HCl.out k hlt
        cases e0
        have hck' := (hw.out.cell (by rw [block_of_add]; exact hab)).trans hck
        have hx : (ls.drop 1)[k]? = some ((ls.drop 1).getD k []) := by rw [List.getD_eq_getElem?_getD, List.getElem?_eq_getElem (by rw [HLe.out]; exact hlt)]; rfl
        have hxl := HD.out k _ hx
        have hdr : (ls.drop 1).drop k = (ls.drop 1).getD k [] :: (ls.drop 1).drop (k + 1) := drop_at hx
        rw [hdr] at hb
        rw [show (⟨ad.block, ad.off + 1, none⟩ : Addr).add k = ⟨ad.block, ad.off + 1 + k, none⟩ by simp [Addr.add]] at hck'
        have hck2 : wr.cell? ((⟨ad.block, ad.off + 1, none⟩ : Addr).add k) = some (strV ((ls.drop 1).getD k [])) := by
          rw [show (⟨ad.block, ad.off + 1, none⟩ : Addr).add k = ⟨ad.block, ad.off + 1 + k, none⟩ by simp [Addr.add]]; exact hck'
        have HBw := Lib.hid (HB2.out.trans (hw.out.mono HB2.out.size))
        have HLn := Lib.hid (kLine_any v2 m es ((ls.drop 1).getD k []) wr (HGX.out.below hw.out) (HLV.out.below HBw.out) HEd.out hm1 hm6 (by omega))
        have hbe : badF f (k + 1) ((ls.drop 1).getD k [] :: (ls.drop 1).drop (k + 1)) = if f ((ls.drop 1).getD k []) ≠ 0 then (((k + 1 : Nat) : Int), f ((ls.drop 1).getD k [])) else badF f (k + 1 + 1) ((ls.drop 1).drop (k + 1)) := rfl
        have HBe : Hid (badF f 1 (ls.drop 1) = if lineE m es ((ls.drop 1).getD k []) ≠ 0 then (((k + 1 : Nat) : Int), lineE m es ((ls.drop 1).getD k [])) else badF f (k + 1 + 1) ((ls.drop 1).drop (k + 1))) := by
          show _ = _
          rw [hb.out, hbe, show f ((ls.drop 1).getD k []) = lineE m es ((ls.drop 1).getD k []) by rw [HF.out]; rfl]
        have HW := Lib.hid hw.out
        generalize lineE m es ((ls.drop 1).getD k []) = le at *
        generalize (ls.drop 1).getD k [] = x at *
        clear hb hbe hdr hx hck hab hxl hw
        go_wp2_with fail
        refine HLn.out.mono ?_
        rintro e w4 ⟨rfl, hb4⟩
        have HB4 := Lib.hid (HW.out.trans (hb4.mono HW.out.size))
        have HB5 := Lib.hid (HBw.out.trans (hb4.mono HBw.out.size))
        clear hb4 HLn hck' hck2
        by_cases hle : le ≠ 0
        · have hR2 : Hid (AP = (((k + 1 : Nat) : Int), le)) := by show _ = _; rw [hR1.out, HBe.out, if_pos hle]
          have hne : Hid (AP.2 ≠ 0) := by show _ ≠ _; rw [hR2.out]; exact hle
          have t1 : (le != 0) = true := by simpa using hle
          clear hle HBe hR1
          go_wp2
          go_ret3
          exact ⟨.slice none 0 0, by rw [hR2.out]; rfl, fun h => absurd h hne.out, HB5.out⟩
        · have HN : Hid (badF f 1 (ls.drop 1) = badF f (k + 1 + 1) ((ls.drop 1).drop (k + 1))) := by show _ = _; rw [HBe.out, if_neg hle]
          obtain rfl : le = 0 := by omega
          clear hle HBe
          go_wp2
          go_roundw
          case rel => exact ⟨k + 1, by omega, by go_num, HN.out, HB4.out⟩
          case measure => simp [intOf]; omega
      · have hd : (ls.drop 1).drop k = [] := List.drop_of_length_le (by have := HLe.out; omega)
        have hAP : Hid (AP = (0, 0)) := by show _ = _; rw [hR1.out, hb.out, hd]; rfl
        have HS9 := Lib.hid (HS0.out.below hw.out)
        have HB9 := Lib.hid (HB2.out.trans (hw.out.mono HB2.out.size))
        clear hd hb
        go_wp2
        go_ret3
        exact ⟨_, by rw [hAP.out]; rfl, fun _ => HS9.out, HB9.out⟩
end Go.Proofs.YtgcnijmmjlfabaaGreatDoor

namespace Go.Proofs.YtgcnijmmjlfabaaGreatDoor
open Go.RowKit Go.Shelf

/-- What Accept answers. -/
def acceptP (s : List UInt8) : Int × Int := if (accP s).2 ≠ 0 then accP s else ((((linesV s).drop 1).length : Int), 0)
theorem kAccept_any (s : List UInt8) (w : World) (hlv : LV w) (h6 : linesE s = 0 → hdE (hd0 s) = 0 → hdN (hd0 s) ≤ 6) :
    Calls Tryz.prog 13 #[strV s] w fun e w' => e = .returned (.tuple #[.int .i64 (acceptP s).1, .int .i64 (acceptP s).2]) ∧ Below w.heap.size w w' := by
  have HAc := Lib.hid (kAcc_any s w hlv h6)
  have HR : Hid (acceptP s = if (accP s).2 ≠ 0 then accP s else ((((linesV s).drop 1).length : Int), 0)) := rfl
  generalize acceptP s = AP at *
  generalize accP s = ac at *
  generalize (linesV s).drop 1 = V at *
  obtain ⟨at_, E⟩ := ac
  dsimp only at HAc HR
  clear hlv h6
  go_enter Tryz.func13, Tryz.ntmps13
  go_wp2_with fail
  refine HAc.out.mono ?_
  rintro e w1 ⟨v1, rfl, hr1, hb1⟩
  have HB1 := Lib.hid hb1
  by_cases hE : E ≠ 0
  · have hR1 : Hid (AP = (at_, E)) := by show _ = _; rw [HR.out, if_pos hE]
    have t1 : (E != 0) = true := by simpa using hE
    clear hE hr1 hb1 HR HAc
    go_wp2
    go_ret2
    exact ⟨by rw [hR1.out]; rfl, HB1.out⟩
  · have hR1 : Hid (AP = ((V.length : Int), 0)) := by show _ = _; rw [HR.out, if_neg hE]
    obtain rfl : E = 0 := by omega
    obtain ⟨A, c, rfl, -, -⟩ := (hr1 rfl).open_
    clear hE hr1 hb1 HR HAc
    go_wp2
    go_ret2
    exact ⟨by rw [hR1.out]; rfl, HB1.out⟩
end Go.Proofs.YtgcnijmmjlfabaaGreatDoor

namespace Go.Proofs.YtgcnijmmjlfabaaGreatDoor
open Go.RowKit Go.Shelf

/-- A text up to its last line feed. -/
def wholeL (s : List UInt8) : List UInt8 := s.take ((Go.Lib.lastIndexByte ⟨s.toArray⟩ 10 + 1).toNat)
/-- How many entries stand before the first of which f is not 0. -/
def cntF {α : Type} (f : α → Int) : List α → Nat
  | [] => 0
  | x :: r => if f x ≠ 0 then 0 else cntF f r + 1
/-- What Prefix answers. -/
def prefP (s : List UInt8) : Int × Int :=
  if 65536 < s.length then (0, 19) else if linesE (wholeL s) ≠ 0 then (0, linesE (wholeL s)) else if hdE (hd0 (wholeL s)) ≠ 0 then (0, hdE (hd0 (wholeL s)))
  else ((cntF (accF (wholeL s)) ((linesV (wholeL s)).drop 1) : Int), 0)
theorem lastIndex_any (s : List UInt8) (w : World) (hs : s.length ≤ 100000) :
    Calls Tryz.prog 33 #[strV s, .string ⟨#[10]⟩] w fun e w' => e = .returned (.int .i64 (Go.Lib.lastIndexByte ⟨s.toArray⟩ 10)) ∧ w' = w := by
  have hsz : (⟨s.toArray⟩ : ByteArray).size = s.length := by simp [ByteArray.size]
  exact Any.strings_LastIndex_one layLastIndex ⟨s.toArray⟩ ⟨#[10]⟩ rfl (by omega) w
theorem lastIndex_lo (B : ByteArray) : -1 ≤ Go.Lib.lastIndexByte B 10 ∧ Go.Lib.lastIndexByte B 10 < B.size := by
  unfold Go.Lib.lastIndexByte
  rcases Go.Lib.lastIdx_spec B 10 B.size with ⟨e, -⟩ | ⟨i, hi, e, -⟩
  · rw [e]; omega
  · rw [e]; omega
theorem extract_take (s : List UInt8) (k : Nat) : (ByteArray.mk s.toArray).extract 0 k = ⟨(s.take k).toArray⟩ := by
  apply ByteArray.ext
  rw [ByteArray.data_extract]
  simp
theorem kPrefix_any (s : List UInt8) (w : World) (hlv : LV w) (h6 : linesE (wholeL s) = 0 → hdE (hd0 (wholeL s)) = 0 → hdN (hd0 (wholeL s)) ≤ 6) :
    Calls Tryz.prog 18 #[strV s] w fun e w' => e = .returned (.tuple #[.int .i64 (prefP s).1, .int .i64 (prefP s).2]) ∧ Below w.heap.size w w' := by
  have hsz : (⟨s.toArray⟩ : ByteArray).size = s.length := by simp [ByteArray.size]
  have hlo := lastIndex_lo ⟨s.toArray⟩
  by_cases hl : 65536 < s.length
  · have hR : prefP s = (0, 19) := by unfold prefP; rw [if_pos hl]
    rw [hR, show strV s = .string ⟨s.toArray⟩ from rfl]
    generalize (⟨s.toArray⟩ : ByteArray) = B at *
    clear hlv h6 hR hlo
    go_enter Tryz.func18, Tryz.ntmps18
    go_wp2
    go_ret2
    exact ⟨rfl, Below.refl _ _⟩
  have hR : Hid (prefP s = if linesE (wholeL s) ≠ 0 then (0, linesE (wholeL s)) else if hdE (hd0 (wholeL s)) ≠ 0 then (0, hdE (hd0 (wholeL s)))
    else ((cntF (accF (wholeL s)) ((linesV (wholeL s)).drop 1) : Int), 0)) := by show _ = _; unfold prefP; rw [if_neg hl]
  have HLa := Lib.hid (lastIndex_any s w (by omega))
  have hwh : wholeL s = s.take ((Go.Lib.lastIndexByte ⟨s.toArray⟩ 10 + 1).toNat) := rfl
  have hex := extract_take s ((Go.Lib.lastIndexByte ⟨s.toArray⟩ 10 + 1).toNat)
  rw [← hwh] at hex
  have HLi := Lib.hid (kLines_any (wholeL s) w hlv)
  generalize wholeL s = u at *
  generalize Go.Lib.lastIndexByte ⟨s.toArray⟩ 10 = ix at *
  generalize prefP s = AP at *
  rw [show strV s = .string ⟨s.toArray⟩ from rfl] at *
  generalize (⟨s.toArray⟩ : ByteArray) = B at *
  obtain ⟨k, hk⟩ : ∃ k : Nat, ix = (k : Int) - 1 := ⟨(ix + 1).toNat, by omega⟩
  subst hk
  have hk1 : ((k : Int) - 1 + 1).toNat = k := by omega
  rw [hk1] at hex
  have hkB : k ≤ B.size := by omega
  have hB6 : B.size ≤ 65536 := by omega
  have HLV := Lib.hid hlv
  clear hl hsz hlo hwh hk1 hlv
  go_enter Tryz.func18, Tryz.ntmps18
  go_wp2_with fail
  refine HLa.out.mono ?_
  rintro e w1 ⟨rfl, rfl⟩
  go_wp2_with fail
  refine HLi.out.mono ?_
  rintro e w2 ⟨v1, rfl, hr1, hb1⟩
  have HB1 := Lib.hid hb1
  by_cases h1 : linesE u ≠ 0
  · have hR1 : Hid (AP = (0, linesE u)) := by show _ = _; rw [hR.out, if_pos h1]
    have t1 : (linesE u != 0) = true := by simpa using h1
    generalize linesE u = E at *
    clear h1 hR h6 hr1 hb1 HLi HLa
    go_wp2
    go_ret2
    exact ⟨by rw [hR1.out]; rfl, HB1.out⟩
  have h10 : linesE u = 0 := by omega
  have hsl := lines_s h10
  have hln := lines_len h10
  have HM : Hid (∀ x ∈ linesV u, x.length ≤ 65536) := fun x hx => Nat.le_trans (lines_mem hx) hsl
  have hR0 : Hid (AP = if hdE (hd0 u) ≠ 0 then (0, hdE (hd0 u)) else ((cntF (accF u) ((linesV u).drop 1) : Int), 0)) := by show _ = _; rw [hR.out, if_neg h1]
  have HF : Hid (accF u = lineE (hdN (hd0 u)).toNat (hdT (hd0 u))) := rfl
  have h0m : hd0 u ∈ linesV u := by unfold hd0; rw [List.getD_eq_getElem?_getD, List.getElem?_eq_getElem (show 0 < (linesV u).length by omega)]; exact List.getElem_mem _
  have hhd : (hd0 u).length ≤ 65536 := HM.out _ h0m
  have h0e : hd0 u = (linesV u).getD 0 [] := rfl
  have HHd1 : Hid (Calls Tryz.prog 34 #[strV ((linesV u).getD 0 [])] w2 fun e w' => ∃ v, e = .returned (.tuple #[v, .int .i64 (hdE (hd0 u))]) ∧ (hdE (hd0 u) = 0 → GX w' v (hdN (hd0 u)).toNat (hdT (hd0 u))) ∧ Below w2.heap.size w2 w') := by rw [← h0e]; exact kHead_any (hd0 u) w2 (HLV.out.below hb1) (by omega)
  have HOK : Hid (hdE (hd0 u) = 0 → ∃ m : Nat, hdN (hd0 u) = m ∧ 1 ≤ m ∧ m ≤ 6 ∧ Edges m (hdT (hd0 u))) := fun h => by
    have h7 := h6 h10 h
    unfold hdE at h
    split at h
    · cases h
    · split at h
      · rename_i hh; exact absurd h hh
      · obtain ⟨hgc, -⟩ := ofE_ok h
        obtain ⟨m, hm0, hm1, -, hE⟩ := gcheckE_zero hgc
        exact ⟨m, hm0, hm1, by omega, hE⟩
  have hr1' := hr1 h10
  rw [h10]
  generalize hdE (hd0 u) = E at *
  generalize hdN (hd0 u) = n at *
  generalize hdT (hd0 u) = es at *
  generalize accF u = f at *
  clear h6 h1 h0m hhd h0e h10 hsl hR hr1 HLi HLa
  generalize linesN u = nn at *
  generalize linesV u = ls at *
  obtain ⟨A, c, rfl, hlc, hcl⟩ := hr1'.open_
  obtain ⟨ad, rfl, had, hc0⟩ := hcl 0 (by omega)
  rw [add_zero'] at hc0
  have HR1 := Lib.hid hr1'
  have hl0 : (0 : Int) < (ls.length : Int) := by omega
  clear hr1' hb1 hcl
  go_wp2_with fail
  refine HHd1.out.mono ?_
  rintro e w3 ⟨v2, rfl, hg2, hb2⟩
  have HB2 := Lib.hid (HB1.out.trans (hb2.mono HB1.out.size))
  have HG2 := Lib.hid hg2
  have HR2 := Lib.hid (HR1.out.below hb2)
  clear hg2 hb2 HHd1 HR1
  by_cases hE : E ≠ 0
  · have hR1 : Hid (AP = (0, E)) := by show _ = _; rw [hR0.out, if_pos hE]
    have t1 : (E != 0) = true := by simpa using hE
    clear hE hR0 HOK
    go_wp2
    go_ret2
    exact ⟨by rw [hR1.out]; rfl, HB2.out⟩
  have hE0 : E = 0 := by omega
  obtain ⟨m, rfl, hm1, hm6, hEd⟩ := HOK.out hE0
  have hR1 : Hid (AP = ((cntF f (ls.drop 1) : Int), 0)) := by show _ = _; rw [hR0.out, if_neg hE]
  have HGX := Lib.hid (HG2.out hE0)
  have HEd := Lib.hid hEd
  rw [hE0]
  have hs1 := RS.sub (i := 1) (j := ls.length) HR2.out (by omega) (by omega)
  rw [List.take_of_length_le (Nat.le_refl _)] at hs1
  have hlen : (ls.drop 1).length = ls.length - 1 := by simp
  clear hE hE0 hR0 HOK HG2 hEd hc0 HB1
  by_cases hc1 : c = 1
  · subst hc1
    have h1l : ls.length = 1 := by omega
    have h0l : ls.drop 1 = [] := List.length_eq_zero_iff.1 (by rw [hlen, h1l])
    have hAP : Hid (AP = (0, 0)) := by show _ = _; rw [hR1.out, h0l]; rfl
    rw [h1l]
    clear hs1 hlen hlc h1l h0l hR1 hl0 hln
    go_wp2_with fail
    go_loopw [8, 40] (fun a i wr => a = .int .i64 0 ∧ i = .int .i64 0 ∧ wr = w3) (fun _ _ _ => 1)
    case atStart => exact ⟨rfl, rfl, rfl⟩
    case round =>
      obtain ⟨rfl, rfl, rfl⟩ := hrel
      go_wp2
      go_ret2
      exact ⟨by rw [hAP.out]; rfl, HB2.out⟩
  · have hc2 : 1 < c := by omega
    rw [if_neg hc1, show ad.add 1 = ⟨ad.block, ad.off + 1, none⟩ by simp [Addr.add]] at hs1
    have HS0 := Lib.hid hs1
    obtain ⟨A', c', he, hlc', hcl'⟩ := hs1.open_
    simp only [Value.slice.injEq] at he
    obtain ⟨rfl, hl', rfl⟩ := he
    rw [hlen] at hcl' hlc'
    have HCl := Lib.hid hcl'
    have hll : (ls.length : Int) - 1 = ((ls.length - 1 : Nat) : Int) := by omega
    have HD : Hid (∀ (k : Nat) (x : List UInt8), (ls.drop 1)[k]? = some x → x.length ≤ 65536) := fun k x h => HM.out x (List.mem_of_mem_drop (List.mem_of_getElem? h))
    have hlb : ls.length ≤ 17592186044415 := by
      obtain ⟨_, _, _, _, hq, _⟩ := HR2.out
      simpa using hq
    have HLe := Lib.hid hlen
    clear hs1 hcl' hlen hl' hc1
    go_wp2_with fail
    go_loopw [8, 40] (fun a i wr => ∃ k : Nat, k ≤ ls.length - 1 ∧ a = .int .i64 (k : Int) ∧ i = .int .i64 (k : Int) ∧ Hid (cntF f (ls.drop 1) = k + cntF f ((ls.drop 1).drop k)) ∧ Hid (Below w3.heap.size w3 wr)) (fun _ i _ => (ls.length - 1) - (intOf i).toNat)
    case atStart => exact ⟨0, Nat.zero_le _, rfl, rfl, by show _ = _; simp, Below.refl _ _⟩
    case round =>
      obtain ⟨k, hk, rfl, rfl, hb, hw⟩ := hrel
      by_cases hlt : k < ls.length - 1
      · obtain ⟨_, e0, hab, hck⟩ := HCl.out k hlt
        cases e0
        have hck' := (hw.out.cell (by rw [block_of_add]; exact hab)).trans hck
        have hx : (ls.drop 1)[k]? = some ((ls.drop 1).getD k []) := by rw [List.getD_eq_getElem?_getD, List.getElem?_eq_getElem (by rw [HLe.out]; exact hlt)]; rfl
        have hxl := HD.out k _ hx
        have hdr : (ls.drop 1).drop k = (ls.drop 1).getD k [] :: (ls.drop 1).drop (k + 1) := drop_at hx
        rw [hdr] at hb
        rw [show (⟨ad.block, ad.off + 1, none⟩ : Addr).add k = ⟨ad.block, ad.off + 1 + k, none⟩ by simp [Addr.add]] at hck'
        have hck2 : wr.cell? ((⟨ad.block, ad.off + 1, none⟩ : Addr).add k) = some (strV ((ls.drop 1).getD k [])) := by
          rw [show (⟨ad.block, ad.off + 1, none⟩ : Addr).add k = ⟨ad.block, ad.off + 1 + k, none⟩ by simp [Addr.add]]; exact hck'
        have HBw := Lib.hid (HB2.out.trans (hw.out.mono HB2.out.size))
        have HLn := Lib.hid (kLine_any v2 m es ((ls.drop 1).getD k []) wr (HGX.out.below hw.out) (HLV.out.below HBw.out) HEd.out hm1 hm6 (by omega))
        have hbe : cntF f ((ls.drop 1).getD k [] :: (ls.drop 1).drop (k + 1)) = if f ((ls.drop 1).getD k []) ≠ 0 then 0 else cntF f ((ls.drop 1).drop (k + 1)) + 1 := rfl
        have HBe : Hid (cntF f (ls.drop 1) = k + if lineE m es ((ls.drop 1).getD k []) ≠ 0 then 0 else cntF f ((ls.drop 1).drop (k + 1)) + 1) := by
          show _ = _
          rw [hb.out, hbe, show f ((ls.drop 1).getD k []) = lineE m es ((ls.drop 1).getD k []) by rw [HF.out]; rfl]
        have HW := Lib.hid hw.out
        generalize lineE m es ((ls.drop 1).getD k []) = le at *
        generalize (ls.drop 1).getD k [] = x at *
        clear hb hbe hdr hx hck hab hxl hw
        go_wp2_with fail
        refine HLn.out.mono ?_
        rintro e w4 ⟨rfl, hb4⟩
        have HB4 := Lib.hid (HW.out.trans (hb4.mono HW.out.size))
        have HB5 := Lib.hid (HBw.out.trans (hb4.mono HBw.out.size))
        clear hb4 HLn hck' hck2
        by_cases hle : le ≠ 0
        · have hR2 : Hid (AP = ((k : Int), 0)) := by show _ = _; rw [hR1.out, HBe.out, if_pos hle]; rfl
          have t1 : (le != 0) = true := by simpa using hle
          clear hle HBe hR1
          go_wp2
          go_ret2
          exact ⟨by rw [hR2.out]; rfl, HB5.out⟩
        · have HN : Hid (cntF f (ls.drop 1) = (k + 1) + cntF f ((ls.drop 1).drop (k + 1))) := by show _ = _; rw [HBe.out, if_neg hle]; omega
          obtain rfl : le = 0 := by omega
          clear hle HBe
          go_wp2
          go_roundw
          case rel => exact ⟨k + 1, by omega, by go_num, by go_num, HN.out, HB4.out⟩
          case measure => simp [intOf]; omega
      · have hd : (ls.drop 1).drop k = [] := List.drop_of_length_le (by have := HLe.out; omega)
        have hAP : Hid (AP = ((k : Int), 0)) := by show _ = _; rw [hR1.out, hb.out, hd]; rfl
        have HB9 := Lib.hid (HB2.out.trans (hw.out.mono HB2.out.size))
        clear hd hb
        go_wp2
        go_ret2
        exact ⟨by rw [hAP.out]; rfl, HB9.out⟩
end Go.Proofs.YtgcnijmmjlfabaaGreatDoor

namespace Go.Proofs.YtgcnijmmjlfabaaGreatDoor
open Go.RowKit Go.Shelf

/-- What stands before the blank and the colon. -/
def factL (s : List UInt8) : List UInt8 := (Go.Lib.cut s [32, 58]).1
/-- A list of texts that the call owns. -/
def OS (w : World) (B : Nat) (v : Value) (l : List (List UInt8)) : Prop := OV w B 9 v (l.map strV)
theorem OS.below {w w' : World} {B : Nat} {v : Value} {l : List (List UInt8)} (h : OS w B v l) (hb : Below w.heap.size w w') : OS w' B v l := OV.below h hb
theorem OS.snoc {w W : World} {o : Value} {out : List (List UInt8)} (h : OS W w.heap.size o out) (z : List UInt8) (hb : Below w.heap.size w W) :
    OV (W.alloc (.cells #[strV z] 9)) w.heap.size 9 o (out.map strV) ∧ RV (W.alloc (.cells #[strV z] 9)) (.slice (some ⟨W.heap.size, 0, none⟩) 1 1) [strV z] ∧
      ∀ v1 w3, OV w3 w.heap.size 9 v1 (out.map strV ++ [strV z]) → (W.alloc (.cells #[strV z] 9)).grownBy w3 o.ownBlock → OS w3 w.heap.size v1 (out ++ [z]) ∧ Below w.heap.size w w3 := by
  have hba := below_alloc W (.cells #[strV z] 9)
  have hov := OV.below h hba
  refine ⟨hov, RV.ones W _ _, fun v1 w3 hown hg => ⟨?_, ?_⟩⟩
  · show OV _ _ _ _ _
    simpa using hown
  · exact below_own (hb.trans (hba.mono hb.size)) (by have := hb.size; have := hba.size; omega) hov hg
theorem cut_any (s : List UInt8) (w : World) (hv : LV w) (hs : s.length ≤ 1000000) :
    Calls Tryz.prog 27 #[strV s, .string ⟨#[32, 58]⟩] w fun e w' => ∃ v2 v3, e = .returned (.tuple #[strV (factL s), v2, v3]) ∧ Below w.heap.size w w' := by
  obtain ⟨⟨m, hm⟩, -⟩ := hv
  have hsz : (⟨s.toArray⟩ : ByteArray).size = s.length := by simp [ByteArray.size]
  refine (Any.strings_Cut layCut ⟨s.toArray⟩ ⟨#[32, 58]⟩ m w (by omega) hm).mono ?_
  rintro e w' ⟨rfl, n, rfl⟩
  exact ⟨_, _, rfl, below_drewN (Below.refl _ _) n⟩
/-- What Facts answers. -/
def factsV (s : List UInt8) : List (List UInt8) := ((linesV s).drop 1).map factL
theorem kFacts_any (s : List UInt8) (w : World) (hlv : LV w) (h6 : linesE s = 0 → hdE (hd0 s) = 0 → hdN (hd0 s) ≤ 6) :
    Calls Tryz.prog 15 #[strV s] w fun e w' => ∃ v, e = .returned (.tuple #[v, .int .i64 (accP s).2]) ∧ RS w' v (if (accP s).2 = 0 then factsV s else []) ∧ Below w.heap.size w w' := by
  have HAc := Lib.hid (kAcc_any s w hlv h6)
  have HLV := Lib.hid hlv
  have HM : Hid (linesE s = 0 → ∀ x ∈ (linesV s).drop 1, x.length ≤ 65536) := fun h x hx => Nat.le_trans (lines_mem (List.mem_of_mem_drop hx)) (lines_s h)
  have HVl : Hid (linesE s = 0 → ((linesV s).drop 1).length ≤ 65537) := fun h => by
    have h1 := lines_s h
    have h2 := splitL_length 10 s
    unfold linesV
    rw [List.length_drop, List.length_take]
    omega
  have HE : Hid ((accP s).2 = 0 → linesE s = 0) := fun h => by
    unfold accP at h
    apply Classical.byContradiction
    intro hc
    rw [if_pos hc] at h
    exact hc h
  have HFv : Hid (factsV s = ((linesV s).drop 1).map factL) := rfl
  generalize factsV s = F at *
  generalize accP s = ac at *
  generalize (linesV s).drop 1 = V at *
  generalize linesE s = le at *
  obtain ⟨at_, E⟩ := ac
  dsimp only at HAc HE ⊢
  obtain ⟨i0, hi, hz0, hz1, hz2⟩ := info_parts str_info
  clear hlv h6
  go_enter Tryz.func15, Tryz.ntmps15
  go_wp2_with fail
  refine HAc.out.mono ?_
  rintro e w1 ⟨v1, rfl, hr1, hb1⟩
  have HB1 := Lib.hid hb1
  by_cases hE : E ≠ 0
  · have hne : Hid (E ≠ 0) := hE
    have t1 : (E != 0) = true := by simpa using hE
    clear hE hr1 hb1 HAc HE
    go_wp2
    go_ret2
    exact ⟨.slice none 0 0, rfl, RV.nil_ _, HB1.out⟩
  · obtain rfl : E = 0 := by omega
    have HMx := Lib.hid (HM.out (HE.out rfl))
    obtain ⟨A, c, rfl, hlc, hcl⟩ := (hr1 rfl).open_
    have HR1 := Lib.hid (hr1 rfl)
    have hlb : V.length ≤ 65537 := HVl.out (HE.out rfl)
    have HCl := Lib.hid hcl
    clear hE hr1 hb1 HAc HE HM hcl HVl
    go_wp2_with fail
    go_loopw [7, 24] (fun o i wr => ∃ (k : Nat) (vo : Value), vo = o ∧ k ≤ V.length ∧ i = .int .i64 (k : Int) ∧ Hid (OS wr w1.heap.size o ((V.take k).map factL)) ∧ Hid (Below w1.heap.size w1 wr)) (fun _ i _ => V.length - (intOf i).toNat)
    case atStart => exact ⟨0, _, rfl, Nat.zero_le _, rfl, OV.nil_ _ _ _, Below.refl _ _⟩
    case round =>
      obtain ⟨k, vo, rfl, hk, rfl, ho, hw⟩ := hrel
      by_cases hlt : k < V.length
      · obtain ⟨ad, rfl, hab, hck⟩ := HCl.out k hlt
        have hck2 := (hw.out.cell (p := ad.add k) (by rw [block_of_add]; exact hab)).trans hck
        have hx : V[k]? = some (V.getD k []) := by rw [List.getD_eq_getElem?_getD, List.getElem?_eq_getElem hlt]; rfl
        have hxl := HMx.out _ (List.mem_of_getElem? hx)
        have HTk : Hid ((V.take (k + 1)).map factL = (V.take k).map factL ++ [factL (V.getD k [])]) := by
          show _ = _; rw [List.take_add_one, hx, List.map_append]; rfl
        have HBw := Lib.hid (HB1.out.trans (hw.out.mono HB1.out.size))
        have HCu := Lib.hid (cut_any (V.getD k []) wr (HLV.out.below HBw.out) (by omega))
        have hnl : ((V.take k).map factL).length ≤ V.length := by rw [List.length_map, List.length_take]; omega
        generalize factL (V.getD k []) = z at *
        generalize V.getD k [] = x at *
        obtain ⟨Z, hZ⟩ : ∃ Z, strV z = .string Z := ⟨_, rfl⟩
        rw [hZ] at HCu
        have HZ := Lib.hid hZ
        clear hZ
        clear hx hxl hck hab
        go_wp2_with fail
        refine HCu.out.mono ?_
        rintro e w2 ⟨u2, u3, rfl, hb2⟩
        have HB2 := Lib.hid (HBw.out.trans (hb2.mono HBw.out.size))
        have HW2 := Lib.hid (hw.out.trans (hb2.mono hw.out.size))
        have HO2 : Hid (OS w2 w1.heap.size vo ((V.take k).map factL)) := ho.out.below hb2
        clear hb2 hck2 ho
        obtain ⟨hov, hrv, hfin⟩ := OS.snoc HO2.out z HW2.out
        rw [HZ.out] at hov hrv hfin
        have HOv := Lib.hid hov
        have HRv := Lib.hid hrv
        have HFin := Lib.hid hfin
        have hszB := HW2.out.size
        clear hov hrv hfin
        generalize (V.take k).map factL = os at *
        go_wp2_with (at_builtin; refine wpList_appendV _ rfl _ _ _ rfl 9 i0 _ 16 Tryz.underlying36 hi hz0 hz1 hz2 rfl w1.heap.size _ _ rfl HOv.out _ _ rfl HRv.out (one_ones rfl) (by first | omega | (simp; omega)) (by first | omega | (simp; omega)) (by first | omega | (simp; omega)) ?_; intro v8 w3 hown hg hat; obtain ⟨hf1, hf2⟩ := HFin.out v8 w3 hown hg; have HF1 := Lib.hid hf1; have HF3 := Lib.hid hf2; clear hown hg hat hf1 hf2)
        go_wp2
        go_roundw
        case rel => exact ⟨k + 1, _, rfl, by omega, by go_num, by rw [HTk.out]; exact HF1.out, HF3.out⟩
        case measure => simp [intOf]; omega
      · have hF : Hid (RS wr vo F) := by
          have h := ho.out.rv
          rwa [List.take_of_length_le (by omega), ← HFv.out] at h
        have HB9 := Lib.hid (HB1.out.trans (hw.out.mono HB1.out.size))
        clear ho
        go_wp2
        go_ret2
        exact ⟨_, rfl, hF.out, HB9.out⟩
end Go.Proofs.YtgcnijmmjlfabaaGreatDoor

namespace Go.Proofs.YtgcnijmmjlfabaaGreatDoor
open Go.RowKit Go.Shelf

def x1 : List UInt8 := [101, 113, 117, 105, 118, 97, 108, 101, 110, 116, 32, 49, 32, 49, 32, 48, 32, 48, 32, 48, 32, 50, 32, 58, 32, 49, 32, 49, 32, 48]
def x2 : List UInt8 := [117, 110, 119, 105, 110, 110, 97, 98, 108, 101, 32, 49, 32, 45, 49, 32, 48, 32, 58, 32, 48, 32, 48, 32, 45, 49, 32, 45, 49, 32, 49, 32, 50]
def x3 : List UInt8 := [115, 117, 112, 101, 114, 115, 116, 97, 98, 108, 101, 32, 48, 32, 48, 32, 49, 32, 48, 32, 58, 32, 50, 32, 49]
def x4 : List UInt8 := [103, 114, 111, 117, 112, 32, 49, 32, 51, 32, 58, 32, 49, 32, 48, 32, 50, 32, 49, 32, 49, 32, 48, 32, 45, 50, 32, 49, 32, 48, 32, 49, 32, 45, 49, 32, 50, 32, 50, 32, 45, 49, 32, 49, 32, 48]
def x5 : List UInt8 := [115, 117, 112, 101, 114, 115, 116, 97, 98, 108, 101, 32, 48, 32, 48, 32, 49, 32, 48, 32, 58, 32, 49, 32, 50]
def y1 : List UInt8 := [103, 114, 97, 112, 104, 32, 51, 32, 48, 32, 49, 32, 49, 32, 48, 32, 50, 32, 49, 32, 49, 32, 50, 32, 49, 10, 101, 113, 117, 105, 118, 97, 108, 101, 110, 116, 32, 49, 32, 49, 32, 48, 32, 48, 32, 48, 32, 50, 32, 58, 32, 49, 32, 49, 32, 48, 10, 115, 117, 112, 101, 114, 115, 116, 97, 98, 108, 101, 32, 48, 32, 48, 32, 49, 32, 48, 32, 58, 32, 50, 32, 49, 10]
def y2 : List UInt8 := [103, 114, 97, 112, 104, 32, 49, 10, 119, 105, 110, 110, 97, 98, 108, 101, 32, 51, 32, 58, 32, 48, 10]
def y3 : List UInt8 := [103, 114, 97, 112, 104, 32, 49, 10, 119, 105, 110, 110, 97, 98, 108, 101, 32, 51, 32, 58, 32, 48, 10, 119, 105, 110, 110]
theorem x1_ok : LineE 3 es3 x1 = 0 := by kernel_rfl
theorem x2_ok : LineE 3 es3 x2 = 0 := by kernel_rfl
theorem x3_ok : LineE 3 es3 x3 = 0 := by kernel_rfl
theorem x4_ok : LineE 3 es3 x4 = 0 := by kernel_rfl
theorem x5_no : LineE 3 es3 x5 = 16 := by kernel_rfl
theorem y1_ok : acceptP y1 = (2, 0) := by kernel_rfl
theorem y2_ok : (accP y2).2 = 0 := by kernel_rfl
theorem y2_fs : factsV y2 = [[119, 105, 110, 110, 97, 98, 108, 101, 32, 51]] := by kernel_rfl
theorem y3_ok : prefP y3 = (1, 0) := by kernel_rfl
end Go.Proofs.YtgcnijmmjlfabaaGreatDoor

namespace Go.Proofs.YtgcnijmmjlfabaaGreatDoor
open Go.RowKit Go.Shelf

theorem EqualS_any (va vb : Value) (a b : List (List UInt8)) (w : World) (ha : RS w va a) (hb : RS w vb b) :
    Calls Tryz.prog 23 #[va, vb] w fun e w' => e = .returned (.bool (decide (a = b))) ∧ Below w.heap.size w w' := by
  obtain ⟨A1, c1, rfl, hl1, hc1⟩ := ha.open_
  obtain ⟨A2, c2, rfl, hl2, hc2⟩ := hb.open_
  have hlb : a.length ≤ 17592186044415 := by
    obtain ⟨_, _, _, _, hq, _⟩ := ha
    simpa using hq
  have HC1 := Lib.hid hc1
  have HC2 := Lib.hid hc2
  clear ha hb hc1 hc2
  by_cases hl : a.length = b.length
  · rw [← hl] at HC2 hl2 ⊢
    have HL := Lib.hid hl
    clear hl
    go_enter Tryz.func23, Tryz.ntmps23
    go_wp2_with fail
    go_loopw [13] (fun i wr => ∃ k : Nat, k ≤ a.length ∧ i = .int .i64 (k : Int) ∧ Hid (a.take k = b.take k) ∧ Hid (Below w.heap.size w wr)) (fun i _ => a.length - (intOf i).toNat)
    case atStart => exact ⟨0, Nat.zero_le _, rfl, rfl, Below.refl _ _⟩
    case round =>
      obtain ⟨k, hk, rfl, he, hw⟩ := hrel
      by_cases hlt : k < a.length
      · obtain ⟨ad1, rfl, hb1, d1⟩ := HC1.out k hlt
        obtain ⟨ad2, rfl, hb2, d2⟩ := HC2.out k hlt
        have e1 := (hw.out.cell (p := ad1.add k) (by rw [block_of_add]; exact hb1)).trans d1
        have e2 := (hw.out.cell (p := ad2.add k) (by rw [block_of_add]; exact hb2)).trans d2
        have hx1 : a[k]? = some (a.getD k []) := by rw [List.getD_eq_getElem?_getD, List.getElem?_eq_getElem hlt]; rfl
        have hx2 : b[k]? = some (b.getD k []) := by rw [List.getD_eq_getElem?_getD, List.getElem?_eq_getElem (by have := HL.out; omega)]; rfl
        have HT : Hid (a.getD k [] = b.getD k [] → a.take (k + 1) = b.take (k + 1)) := fun h => by
          rw [List.take_add_one, List.take_add_one, he.out, hx1, hx2, h]
        have HF : Hid (a.getD k [] ≠ b.getD k [] → decide (a = b) = false) := fun h => by
          rw [decide_eq_false_iff_not]
          rintro rfl
          exact h rfl
        obtain ⟨Z1, hZ1⟩ : ∃ Z, Z = ByteArray.mk (a.getD k []).toArray := ⟨_, rfl⟩
        obtain ⟨Z2, hZ2⟩ : ∃ Z, Z = ByteArray.mk (b.getD k []).toArray := ⟨_, rfl⟩
        have hl1 : Z1.toList = a.getD k [] := by rw [hZ1]; exact ByteArray.toList_mk _
        have hl2 : Z2.toList = b.getD k [] := by rw [hZ2]; exact ByteArray.toList_mk _
        rw [show strV (a.getD k []) = .string Z1 by rw [hZ1]; rfl] at e1
        rw [show strV (b.getD k []) = .string Z2 by rw [hZ2]; rfl] at e2
        by_cases hq : a.getD k [] = b.getD k []
        · have t1 : (Z1.toList == Z2.toList) = true := by rw [hl1, hl2, hq]; simp
          have HTk := Lib.hid (HT.out hq)
          clear hZ1 hZ2 hl1 hl2 hq d1 d2 hx1 hx2 hb1 hb2 HT HF he
          go_wp2_with fail
          go_quiet (fail)
          have HBq := Lib.hid (below_drewN hw.out nq)
          go_wp2
          go_roundw
          case rel => exact ⟨k + 1, by omega, by go_num, HTk.out, HBq.out⟩
          case measure => simp [intOf]; omega
        · have t1 : (Z1.toList == Z2.toList) = false := by rw [hl1, hl2]; simpa using hq
          have hR := Lib.hid (HF.out hq)
          clear hZ1 hZ2 hl1 hl2 hq d1 d2 hx1 hx2 hb1 hb2 HT HF he
          go_wp2_with fail
          go_quiet (fail)
          have HBq := Lib.hid (below_drewN hw.out nq)
          go_wp2
          go_ret
          exact ⟨ret_b hR.out.symm, HBq.out⟩
      · have hR : Hid (decide (a = b) = true) := by
          show _ = _
          rw [decide_eq_true_iff]
          have h := he.out
          rwa [List.take_of_length_le (by omega), List.take_of_length_le (by have := HL.out; omega)] at h
        clear he
        go_wp2
        go_ret
        exact ⟨ret_b hR.out.symm, hw.out⟩
  · have hR : Hid (decide (a = b) = false) := by
      show _ = _
      rw [decide_eq_false_iff_not]
      rintro rfl
      exact hl rfl
    have t1 : ((a.length : Int) != (b.length : Int)) = true := by simp; omega
    clear hl
    go_enter Tryz.func23, Tryz.ntmps23
    go_wp2
    go_ret
    exact ⟨ret_b hR.out.symm, Below.refl _ _⟩
theorem Same58_any (va vb : Value) (a b : List (List UInt8)) (w : World) (ha : RS w va a) (hb : RS w vb b) :
    Calls Tryz.prog 17 #[va, vb] w fun e w' => e = .returned (.bool (decide (a = b))) ∧ Below w.heap.size w w' := by
  obtain ⟨A1, c1, rfl, hl1, hc1⟩ := ha.open_
  obtain ⟨A2, c2, rfl, hl2, hc2⟩ := hb.open_
  have hlb : a.length ≤ 17592186044415 := by
    obtain ⟨_, _, _, _, hq, _⟩ := ha
    simpa using hq
  have HC1 := Lib.hid hc1
  have HC2 := Lib.hid hc2
  clear ha hb hc1 hc2
  by_cases hl : a.length = b.length
  · rw [← hl] at HC2 hl2 ⊢
    have HL := Lib.hid hl
    clear hl
    go_enter Tryz.func17, Tryz.ntmps17
    go_wp2_with fail
    go_loopw [5] (fun i wr => ∃ k : Nat, k ≤ a.length ∧ i = .int .i64 (k : Int) ∧ Hid (a.take k = b.take k) ∧ Hid (Below w.heap.size w wr)) (fun i _ => a.length - (intOf i).toNat)
    case atStart => exact ⟨0, Nat.zero_le _, rfl, rfl, Below.refl _ _⟩
    case round =>
      obtain ⟨k, hk, rfl, he, hw⟩ := hrel
      by_cases hlt : k < a.length
      · obtain ⟨ad1, rfl, hb1, d1⟩ := HC1.out k hlt
        obtain ⟨ad2, rfl, hb2, d2⟩ := HC2.out k hlt
        have e1 := (hw.out.cell (p := ad1.add k) (by rw [block_of_add]; exact hb1)).trans d1
        have e2 := (hw.out.cell (p := ad2.add k) (by rw [block_of_add]; exact hb2)).trans d2
        have hx1 : a[k]? = some (a.getD k []) := by rw [List.getD_eq_getElem?_getD, List.getElem?_eq_getElem hlt]; rfl
        have hx2 : b[k]? = some (b.getD k []) := by rw [List.getD_eq_getElem?_getD, List.getElem?_eq_getElem (by have := HL.out; omega)]; rfl
        have HT : Hid (a.getD k [] = b.getD k [] → a.take (k + 1) = b.take (k + 1)) := fun h => by
          rw [List.take_add_one, List.take_add_one, he.out, hx1, hx2, h]
        have HF : Hid (a.getD k [] ≠ b.getD k [] → decide (a = b) = false) := fun h => by
          rw [decide_eq_false_iff_not]
          rintro rfl
          exact h rfl
        obtain ⟨Z1, hZ1⟩ : ∃ Z, Z = ByteArray.mk (a.getD k []).toArray := ⟨_, rfl⟩
        obtain ⟨Z2, hZ2⟩ : ∃ Z, Z = ByteArray.mk (b.getD k []).toArray := ⟨_, rfl⟩
        have hl1 : Z1.toList = a.getD k [] := by rw [hZ1]; exact ByteArray.toList_mk _
        have hl2 : Z2.toList = b.getD k [] := by rw [hZ2]; exact ByteArray.toList_mk _
        rw [show strV (a.getD k []) = .string Z1 by rw [hZ1]; rfl] at e1
        rw [show strV (b.getD k []) = .string Z2 by rw [hZ2]; rfl] at e2
        by_cases hq : a.getD k [] = b.getD k []
        · have t1 : (Z1.toList == Z2.toList) = true := by rw [hl1, hl2, hq]; simp
          have HTk := Lib.hid (HT.out hq)
          clear hZ1 hZ2 hl1 hl2 hq d1 d2 hx1 hx2 hb1 hb2 HT HF he
          go_wp2_with fail
          go_quiet (fail)
          have HBq := Lib.hid (below_drewN hw.out nq)
          go_wp2
          go_roundw
          case rel => exact ⟨k + 1, by omega, by go_num, HTk.out, HBq.out⟩
          case measure => simp [intOf]; omega
        · have t1 : (Z1.toList == Z2.toList) = false := by rw [hl1, hl2]; simpa using hq
          have hR := Lib.hid (HF.out hq)
          clear hZ1 hZ2 hl1 hl2 hq d1 d2 hx1 hx2 hb1 hb2 HT HF he
          go_wp2_with fail
          go_quiet (fail)
          have HBq := Lib.hid (below_drewN hw.out nq)
          go_wp2
          go_ret
          exact ⟨ret_b hR.out.symm, HBq.out⟩
      · have hR : Hid (decide (a = b) = true) := by
          show _ = _
          rw [decide_eq_true_iff]
          have h := he.out
          rwa [List.take_of_length_le (by omega), List.take_of_length_le (by have := HL.out; omega)] at h
        clear he
        go_wp2
        go_ret
        exact ⟨ret_b hR.out.symm, hw.out⟩
  · have hR : Hid (decide (a = b) = false) := by
      show _ = _
      rw [decide_eq_false_iff_not]
      rintro rfl
      exact hl rfl
    have t1 : ((a.length : Int) != (b.length : Int)) = true := by simp; omega
    clear hl
    go_enter Tryz.func17, Tryz.ntmps17
    go_wp2
    go_ret
    exact ⟨ret_b hR.out.symm, Below.refl _ _⟩
end Go.Proofs.YtgcnijmmjlfabaaGreatDoor

namespace Go.Proofs.YtgcnijmmjlfabaaGreatDoor
open Go.RowKit Go.Shelf

theorem gq3 (w : World) : GV (w.alloc (.cells #[.int .i64 0, .int .i64 1, .int .i64 1, .int .i64 0, .int .i64 2, .int .i64 1, .int .i64 1, .int .i64 2, .int .i64 1] 52)) (.agg #[.int .i64 3, .slice (some ⟨w.heap.size, 0, none⟩) 3 3]) 3 es3 := by
  refine ⟨_, rfl, some ⟨w.heap.size, 0, none⟩, 3, rfl, by decide, by decide, fun k hk => ?_⟩
  have hk : k < 3 := hk
  match k, hk with
  | 0, _ => exact ⟨_, 0, 1, 1, rfl, by simp, rfl, by simp [Addr.add], by simp [Addr.add], by simp [Addr.add]⟩
  | 1, _ => exact ⟨_, 0, 2, 1, rfl, by simp, rfl, by simp [Addr.add], by simp [Addr.add], by simp [Addr.add]⟩
  | 2, _ => exact ⟨_, 1, 2, 1, rfl, by simp, rfl, by simp [Addr.add], by simp [Addr.add], by simp [Addr.add]⟩
def xsL : List (List UInt8) := [x1, x2, x3, x4]
theorem xs_ok : ∀ k, k < 4 → LineE 3 es3 (xsL.getD k []) = 0 := fun k hk => by
  match k, hk with
  | 0, _ => exact x1_ok
  | 1, _ => exact x2_ok
  | 2, _ => exact x3_ok
  | 3, _ => exact x4_ok
theorem y1_n : hdN (hd0 y1) = 3 := by kernel_rfl
theorem y2_n : hdN (hd0 y2) = 1 := by kernel_rfl
theorem y3_n : hdN (hd0 (wholeL y3)) = 1 := by kernel_rfl
/-- Whether a text is too long for the reference. -/
def longB (s : List UInt8) : Bool := (decide (3000 < s.length) && decide (s.length ≤ 65536)) || decide (131072 < s.length)
theorem long_any (s : List UInt8) (w : World) : Calls Tryz.prog 8 #[strV s] w fun e w' => e = .returned (.bool (longB s)) ∧ w = w' := by
  have hsz : (⟨s.toArray⟩ : ByteArray).size = s.length := by simp [ByteArray.size]
  rw [show longB s = ((decide (3000 < (⟨s.toArray⟩ : ByteArray).size) && decide ((⟨s.toArray⟩ : ByteArray).size ≤ 65536)) || decide (131072 < (⟨s.toArray⟩ : ByteArray).size)) by unfold longB; rw [hsz], show strV s = .string ⟨s.toArray⟩ from rfl]
  generalize (⟨s.toArray⟩ : ByteArray) = B at *
  clear hsz
  obtain ⟨R, hR⟩ : ∃ R, R = ((decide (3000 < B.size) && decide (B.size ≤ 65536)) || decide (131072 < B.size)) := ⟨_, rfl⟩
  rw [← hR]
  by_cases h1 : 3000 < B.size
  · by_cases h2 : B.size ≤ 65536
    · have HR : Hid (R = true) := by show _ = _; rw [hR, decide_eq_true h1, decide_eq_true h2]; rfl
      have g1 : (3000 : Int) < (B.size : Int) := by omega
      have g2 : (B.size : Int) ≤ 65536 := by omega
      clear hR h1 h2
      go_enter Tryz.func8, Tryz.ntmps8
      go_wp2
      go_ret
      exact ⟨ret_b HR.out.symm, rfl⟩
    · by_cases h3 : 131072 < B.size
      · have HR : Hid (R = true) := by show _ = _; rw [hR, decide_eq_true h3, Bool.or_true]
        have g1 : (3000 : Int) < (B.size : Int) := by omega
        have g2 : ¬ (B.size : Int) ≤ 65536 := by omega
        have g3 : (131072 : Int) < (B.size : Int) := by omega
        clear hR h1 h2 h3
        go_enter Tryz.func8, Tryz.ntmps8
        go_wp2
        go_ret
        exact ⟨ret_b HR.out.symm, rfl⟩
      · have HR : Hid (R = false) := by show _ = _; rw [hR, decide_eq_false h3, decide_eq_false h2]; simp
        have g1 : (3000 : Int) < (B.size : Int) := by omega
        have g2 : ¬ (B.size : Int) ≤ 65536 := by omega
        have g3 : ¬ (131072 : Int) < (B.size : Int) := by omega
        clear hR h1 h2 h3
        go_enter Tryz.func8, Tryz.ntmps8
        go_wp2
        go_ret
        exact ⟨ret_b HR.out.symm, rfl⟩
  · have HR : Hid (R = false) := by show _ = _; rw [hR, decide_eq_false h1, decide_eq_false (show ¬ 131072 < B.size by omega)]; rfl
    have g1 : ¬ (3000 : Int) < (B.size : Int) := by omega
    have g3 : ¬ (131072 : Int) < (B.size : Int) := by omega
    clear hR h1
    go_enter Tryz.func8, Tryz.ntmps8
    go_wp2
    go_ret
    exact ⟨ret_b HR.out.symm, rfl⟩
end Go.Proofs.YtgcnijmmjlfabaaGreatDoor

