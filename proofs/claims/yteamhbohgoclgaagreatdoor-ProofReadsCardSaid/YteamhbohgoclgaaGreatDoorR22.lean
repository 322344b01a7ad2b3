/- The library functions that the checker calls, as the shelf knows them: the numbers read off. -/
import Derived.Test.YteamhbohgoclgaaGreatDoorR16
import Derived.Deep.WholeRow
import Derived.Shelf.Strconv.AtoiAll
import Derived.Shelf.Strings.Cut
import Derived.Shelf.Strings.LastIndex
import Derived.Shelf.Strings.SlTrimAscii
import Derived.Shelf.Strings.Split
set_option maxRecDepth 100000
set_option maxHeartbeats 16000000
namespace Go.Proofs.YteamhbohgoclgaaGreatDoor
open Go.RowKit Go.Shelf

def laySplit_ren : Go.Shelf.Ren := ⟨fun | 146 => 23 | 221 => 42 | 268 => 72 | 138 => 73 | 143 => 74 | 195 => 102 | 197 => 103 | 218 => 104 | 219 => 105 | 260 => 144 | 217 => 145 | 225 => 146 | 224 => 147 | 267 => 148 | 266 => 197 | 314 => 198 | n => n, fun | 9 => 9 | 31 => 55 | 3 => 3 | 4 => 4 | 0 => 0 | 105 => 152 | 21 => 21 | 5 => 5 | 46 => 208 | 119 => 275 | 139 => 278 | 138 => 277 | 146 => 280 | 51 => 279 | n => n, fun | 1 => 0 | 3 => 1 | 4 => 2 | n => n⟩
theorem laySplit : Go.Proofs.Lays.n146 Tryz.prog laySplit_ren := {
 mixed := by kernel_rfl
 f138 := Tryz.func73.trans (congrArg some (by kernel_rfl))
 f143 := Tryz.func74.trans (congrArg some (by kernel_rfl))
 f146 := Tryz.func23.trans (congrArg some (by kernel_rfl))
 f195 := Tryz.func102.trans (congrArg some (by kernel_rfl))
 f197 := Tryz.func103.trans (congrArg some (by kernel_rfl))
 f217 := Tryz.func145.trans (congrArg some (by kernel_rfl))
 f218 := Tryz.func104.trans (congrArg some (by kernel_rfl))
 f219 := Tryz.func105.trans (congrArg some (by kernel_rfl))
 f221 := Tryz.func42.trans (congrArg some (by kernel_rfl))
 f224 := Tryz.func147.trans (congrArg some (by kernel_rfl))
 f225 := Tryz.func146.trans (congrArg some (by kernel_rfl))
 f260 := Tryz.func144.trans (congrArg some (by kernel_rfl))
 f266 := Tryz.func197.trans (congrArg some (by kernel_rfl))
 f267 := Tryz.func148.trans (congrArg some (by kernel_rfl))
 f268 := Tryz.func72.trans (congrArg some (by kernel_rfl))
 f314 := Tryz.func198.trans (congrArg some (by kernel_rfl))
 t0 := Tryz.underlying0
 a0 := Tryz.isAgg0
 z0 := Tryz.sizeOf0
 v0 := Tryz.zeroValue0
 t3 := Tryz.underlying3
 a3 := Tryz.isAgg3
 z3 := Tryz.sizeOf3
 v3 := Tryz.zeroValue3
 t4 := Tryz.underlying4
 a4 := Tryz.isAgg4
 z4 := Tryz.sizeOf4
 v4 := Tryz.zeroValue4
 t5 := Tryz.underlying5
 a5 := Tryz.isAgg5
 z5 := Tryz.sizeOf5
 v5 := Tryz.zeroValue5
 t9 := Tryz.underlying9
 a9 := Tryz.isAgg9
 z9 := Tryz.sizeOf9
 v9 := Tryz.zeroValue9
 t21 := Tryz.underlying21
 a21 := Tryz.isAgg21
 z21 := Tryz.sizeOf21
 v21 := Tryz.zeroValue21
 t31 := Tryz.underlying55
 a31 := Tryz.isAgg55
 z31 := Tryz.sizeOf55
 v31 := Tryz.zeroValue55
 t46 := Tryz.underlying208
 a46 := Tryz.isAgg208
 z46 := Tryz.sizeOf208
 v46 := Tryz.zeroValue208
 t51 := Tryz.underlying279
 a51 := Tryz.isAgg279
 z51 := Tryz.sizeOf279
 v51 := Tryz.zeroValue279
 t105 := Tryz.underlying152
 a105 := Tryz.isAgg152
 z105 := Tryz.sizeOf152
 v105 := Tryz.zeroValue152
 t119 := Tryz.underlying275
 a119 := Tryz.isAgg275
 z119 := Tryz.sizeOf275
 t138 := Tryz.underlying277
 a138 := Tryz.isAgg277
 z138 := Tryz.sizeOf277
 v138 := Tryz.zeroValue277
 t139 := Tryz.underlying278
 a139 := Tryz.isAgg278
 z139 := Tryz.sizeOf278
 v139 := Tryz.zeroValue278
 t146 := Tryz.underlying280
 a146 := Tryz.isAgg280
 z146 := Tryz.sizeOf280
 v146 := Tryz.zeroValue280
 g1 := by kernel_rfl
 g3 := by kernel_rfl
 g4 := by kernel_rfl }
def layAtoi_ren : Go.Shelf.Ren := ⟨fun | 172 => 150 | 244 => 200 | 245 => 201 | 247 => 253 | 279 => 254 | 280 => 255 | 281 => 256 | 282 => 257 | 287 => 309 | 316 => 310 | 171 => 94 | 205 => 311 | 321 => 340 | 322 => 341 | 243 => 138 | 246 => 190 | 283 => 246 | 284 => 247 | 285 => 248 | 286 => 249 | 129 => 303 | 317 => 302 | 318 => 304 | 319 => 305 | 320 => 306 | 337 => 338 | 338 => 339 | n => n, fun | 9 => 9 | 3 => 3 | 75 => 144 | 76 => 145 | 4 => 4 | 5 => 5 | 167 => 331 | 37 => 130 | 0 => 0 | 85 => 332 | 2 => 2 | 168 => 334 | 53 => 325 | 175 => 382 | 46 => 208 | 210 => 386 | 127 => 200 | 145 => 425 | 143 => 423 | 21 => 21 | 171 => 324 | 173 => 328 | 212 => 378 | 51 => 279 | 20 => 20 | 213 => 379 | 232 => 437 | 233 => 438 | 80 => 72 | n => n, fun | 15 => 4 | 16 => 5 | 17 => 3 | 18 => 6 | 19 => 7 | n => n⟩
theorem layAtoi : Go.Proofs.LaysC.n172 Tryz.prog layAtoi_ren := {
 mixed := by kernel_rfl
 f129 := Tryz.func303.trans (congrArg some (by kernel_rfl))
 f171 := Tryz.func94.trans (congrArg some (by kernel_rfl))
 f172 := Tryz.func150.trans (congrArg some (by kernel_rfl))
 f205 := Tryz.func311.trans (congrArg some (by kernel_rfl))
 f243 := Tryz.func138.trans (congrArg some (by kernel_rfl))
 f244 := Tryz.func200.trans (congrArg some (by kernel_rfl))
 f245 := Tryz.func201.trans (congrArg some (by kernel_rfl))
 f246 := Tryz.func190.trans (congrArg some (by kernel_rfl))
 f247 := Tryz.func253.trans (congrArg some (by kernel_rfl))
 f279 := Tryz.func254.trans (congrArg some (by kernel_rfl))
 f280 := Tryz.func255.trans (congrArg some (by kernel_rfl))
 f281 := Tryz.func256.trans (congrArg some (by kernel_rfl))
 f282 := Tryz.func257.trans (congrArg some (by kernel_rfl))
 f283 := Tryz.func246.trans (congrArg some (by kernel_rfl))
 f284 := Tryz.func247.trans (congrArg some (by kernel_rfl))
 f285 := Tryz.func248.trans (congrArg some (by kernel_rfl))
 f286 := Tryz.func249.trans (congrArg some (by kernel_rfl))
 f287 := Tryz.func309.trans (congrArg some (by kernel_rfl))
 f316 := Tryz.func310.trans (congrArg some (by kernel_rfl))
 f317 := Tryz.func302.trans (congrArg some (by kernel_rfl))
 f318 := Tryz.func304.trans (congrArg some (by kernel_rfl))
 f319 := Tryz.func305.trans (congrArg some (by kernel_rfl))
 f320 := Tryz.func306.trans (congrArg some (by kernel_rfl))
 f321 := Tryz.func340.trans (congrArg some (by kernel_rfl))
 f322 := Tryz.func341.trans (congrArg some (by kernel_rfl))
 f337 := Tryz.func338.trans (congrArg some (by kernel_rfl))
 f338 := Tryz.func339.trans (congrArg some (by kernel_rfl))
 t0 := Tryz.underlying0
 a0 := Tryz.isAgg0
 z0 := Tryz.sizeOf0
 v0 := Tryz.zeroValue0
 t2 := Tryz.underlying2
 a2 := Tryz.isAgg2
 z2 := Tryz.sizeOf2
 v2 := Tryz.zeroValue2
 t3 := Tryz.underlying3
 a3 := Tryz.isAgg3
 z3 := Tryz.sizeOf3
 v3 := Tryz.zeroValue3
 t4 := Tryz.underlying4
 a4 := Tryz.isAgg4
 z4 := Tryz.sizeOf4
 v4 := Tryz.zeroValue4
 t5 := Tryz.underlying5
 a5 := Tryz.isAgg5
 z5 := Tryz.sizeOf5
 v5 := Tryz.zeroValue5
 t9 := Tryz.underlying9
 a9 := Tryz.isAgg9
 z9 := Tryz.sizeOf9
 v9 := Tryz.zeroValue9
 t20 := Tryz.underlying20
 a20 := Tryz.isAgg20
 z20 := Tryz.sizeOf20
 v20 := Tryz.zeroValue20
 t21 := Tryz.underlying21
 a21 := Tryz.isAgg21
 z21 := Tryz.sizeOf21
 v21 := Tryz.zeroValue21
 t37 := Tryz.underlying130
 a37 := Tryz.isAgg130
 z37 := Tryz.sizeOf130
 v37 := Tryz.zeroValue130
 t46 := Tryz.underlying208
 a46 := Tryz.isAgg208
 z46 := Tryz.sizeOf208
 v46 := Tryz.zeroValue208
 t51 := Tryz.underlying279
 a51 := Tryz.isAgg279
 z51 := Tryz.sizeOf279
 v51 := Tryz.zeroValue279
 t53 := Tryz.underlying325
 a53 := Tryz.isAgg325
 z53 := Tryz.sizeOf325
 v53 := Tryz.zeroValue325
 t75 := Tryz.underlying144
 a75 := Tryz.isAgg144
 z75 := Tryz.sizeOf144
 v75 := Tryz.zeroValue144
 t76 := Tryz.underlying145
 a76 := Tryz.isAgg145
 z76 := Tryz.sizeOf145
 v76 := Tryz.zeroValue145
 t85 := Tryz.underlying332
 a85 := Tryz.isAgg332
 z85 := Tryz.sizeOf332
 v85 := Tryz.zeroValue332
 t127 := Tryz.underlying200
 a127 := Tryz.isAgg200
 z127 := Tryz.sizeOf200
 v127 := Tryz.zeroValue200
 t143 := Tryz.underlying423
 a143 := Tryz.isAgg423
 z143 := Tryz.sizeOf423
 v143 := Tryz.zeroValue423
 t145 := Tryz.underlying425
 a145 := Tryz.isAgg425
 z145 := Tryz.sizeOf425
 v145 := Tryz.zeroValue425
 t167 := Tryz.underlying331
 a167 := Tryz.isAgg331
 z167 := Tryz.sizeOf331
 v167 := Tryz.zeroValue331
 t168 := Tryz.underlying334
 a168 := Tryz.isAgg334
 z168 := Tryz.sizeOf334
 v168 := Tryz.zeroValue334
 t171 := Tryz.underlying324
 a171 := Tryz.isAgg324
 z171 := Tryz.sizeOf324
 v171 := Tryz.zeroValue324
 t173 := Tryz.underlying328
 a173 := Tryz.isAgg328
 z173 := Tryz.sizeOf328
 v173 := Tryz.zeroValue328
 t175 := Tryz.underlying382
 a175 := Tryz.isAgg382
 z175 := Tryz.sizeOf382
 v175 := Tryz.zeroValue382
 t210 := Tryz.underlying386
 a210 := Tryz.isAgg386
 z210 := Tryz.sizeOf386
 v210 := Tryz.zeroValue386
 t212 := Tryz.underlying378
 a212 := Tryz.isAgg378
 z212 := Tryz.sizeOf378
 v212 := Tryz.zeroValue378
 t213 := Tryz.underlying379
 a213 := Tryz.isAgg379
 z213 := Tryz.sizeOf379
 t232 := Tryz.underlying437
 a232 := Tryz.isAgg437
 z232 := Tryz.sizeOf437
 v232 := Tryz.zeroValue437
 t233 := Tryz.underlying438
 a233 := Tryz.isAgg438
 z233 := Tryz.sizeOf438
 v233 := Tryz.zeroValue438
 g15 := by kernel_rfl
 g16 := by kernel_rfl
 g17 := by kernel_rfl
 g18 := by kernel_rfl
 g19 := by kernel_rfl
 t80 := Tryz.underlying72
 a80 := Tryz.isAgg72
 z80 := Tryz.sizeOf72
 v80 := Tryz.zeroValue72
 i0 := by kernel_rfl
 i2 := by kernel_rfl
 i3 := by kernel_rfl
 i4 := by kernel_rfl
 i5 := by kernel_rfl
 i9 := by kernel_rfl
 i20 := by kernel_rfl
 i21 := by kernel_rfl
 i37 := by kernel_rfl
 i46 := by kernel_rfl
 i51 := by kernel_rfl
 i53 := by kernel_rfl
 i75 := by kernel_rfl
 i76 := by kernel_rfl
 i80 := by kernel_rfl
 i85 := by kernel_rfl
 i127 := by kernel_rfl
 i143 := by kernel_rfl
 i145 := by kernel_rfl
 i167 := by kernel_rfl
 i168 := by kernel_rfl
 i171 := by kernel_rfl
 i173 := by kernel_rfl
 i175 := by kernel_rfl
 i210 := by kernel_rfl
 i212 := by kernel_rfl
 i232 := by kernel_rfl
 i233 := by kernel_rfl
 m15 := by kernel_rfl
 m16 := by kernel_rfl
 m17 := by kernel_rfl
 m18 := by kernel_rfl
 m19 := by kernel_rfl
 c0 := by kernel_rfl
 c2 := by kernel_rfl
 c3 := by kernel_rfl
 c4 := by kernel_rfl
 c5 := by kernel_rfl
 c9 := by kernel_rfl
 c20 := by kernel_rfl
 c21 := by kernel_rfl
 c37 := by kernel_rfl
 c46 := by kernel_rfl
 c51 := by kernel_rfl
 c53 := by kernel_rfl
 c75 := by kernel_rfl
 c76 := by kernel_rfl
 c80 := by kernel_rfl
 c85 := by kernel_rfl
 c127 := by kernel_rfl
 c143 := by kernel_rfl
 c145 := by kernel_rfl
 c167 := by kernel_rfl
 c168 := by kernel_rfl
 c171 := by kernel_rfl
 c173 := by kernel_rfl
 c175 := by kernel_rfl
 c210 := by kernel_rfl
 c212 := by kernel_rfl
 c213 := by kernel_rfl
 c232 := by kernel_rfl
 c233 := by kernel_rfl }

def strV (l : List UInt8) : Value := .string ⟨l.toArray⟩
def LV (w : World) : Prop := (∃ m, w.cell? ⟨0, 0, none⟩ = some (.int .i64 m)) /\ ∃ ev, w.cell? ⟨5, 0, none⟩ = some ev /\ (ev = .nilIface \/ ∃ te pe, ev = .iface te pe)
theorem LV.below {w w' : World} (h : LV w) (hb : Below w.heap.size w w') : LV w' := by
 obtain ⟨⟨m, hm⟩, ev, he, h2⟩ := h
 exact ⟨⟨m, (hb.cell (World.block_lt_of_cell? _ _ hm)).trans hm⟩, ev, (hb.cell (World.block_lt_of_cell? _ _ he)).trans he, h2⟩
def RS (w : World) (v : Value) (ws : List (List UInt8)) : Prop := RV w v (ws.map strV)
theorem RS.below {w w' : World} {v : Value} {ws : List (List UInt8)} (h : RS w v ws) (hb : Below w.heap.size w w') : RS w' v ws := RV.below h hb
theorem str_info : (Tryz.prog.info? 9).map (fun i => (i.zero, i.size, i.bytes)) = some (some (.string ByteArray.empty), 1, 16) := by kernel_rfl
theorem splitB_one (s : List UInt8) (c : UInt8) : (Go.Lib.splitB ⟨#[c]⟩ 0 (Go.Lib.countB ⟨s.toArray⟩ ⟨#[c]⟩) ⟨s.toArray⟩).map Value.string = (splitL c s).map strV := by
 have h := Go.Lib.splitB_data ⟨#[c]⟩ 0 (Go.Lib.countB ⟨s.toArray⟩ ⟨#[c]⟩) ⟨s.toArray⟩
 have h2 : Go.Lib.countB ⟨s.toArray⟩ ⟨#[c]⟩ = Go.Lib.count s [c] := rfl
 rw [h2] at h ⊢
 have h3 : ((⟨#[c]⟩ : ByteArray).data.toList) = [c] := rfl
 have h4 : ((⟨s.toArray⟩ : ByteArray).data.toList) = s := rfl
 rw [h3, h4, splitK_one] at h
 rw [<- h, List.map_map]
 refine List.map_congr_left fun b _ => ?_
 show Value.string b = Value.string ⟨(b.data.toList).toArray⟩
 rw [Array.toArray_toList]
theorem split_any (s : List UInt8) (c : UInt8) (w : World) (hv : LV w) (hs : s.length <= 1000000) :
   Calls Tryz.prog 23 #[strV s, .string ⟨#[c]⟩] w fun e w' => ∃ v, e = .returned v /\ RS w' v (splitL c s) /\ Below w.heap.size w w' := by
 obtain ⟨⟨m, hm⟩, -⟩ := hv
 have hsz : (⟨s.toArray⟩ : ByteArray).size = s.length := by simp [ByteArray.size]
 have h := Any.strings_Split laySplit str_info ⟨s.toArray⟩ ⟨#[c]⟩ m w (by omega) hm (by simp [ByteArray.size])
 refine Calls.mono h ?_
 rintro e w' ⟨rfl, rfl⟩
 have hl : (Go.Lib.splitB ⟨#[c]⟩ 0 (Go.Lib.countB ⟨s.toArray⟩ ⟨#[c]⟩) ⟨s.toArray⟩).length = Go.Lib.countB ⟨s.toArray⟩ ⟨#[c]⟩ + 1 := Go.Lib.splitB_all _ (by simp [ByteArray.size]) 0 _ _ rfl
 refine ⟨_, rfl, ?_, below_alloc w _⟩
 rw [splitB_one]
 have hl2 : (splitL c s).length = Go.Lib.countB ⟨s.toArray⟩ ⟨#[c]⟩ + 1 := by rw [<- hl, <- List.length_map (f := Value.string), splitB_one, List.length_map]
 have := RV.lit w ((splitL c s).map strV).toArray 9 (splitL c s).length (by simp) (by have := splitL_length c s; omega)
 rw [hl2] at this
 show RV _ _ _
 rw [List.toList_toArray] at this
 exact this
theorem atoi_in (s : List UInt8) (w : World) (hc : canB s = true) (hs : s.length <= 1000000) (h : -9223372036854775808 <= wv s /\ wv s <= 9223372036854775807) :
   Calls Tryz.prog 150 #[strV s] w fun e w' => e = .returned (.tuple #[.int .i64 (wv s), .nilIface]) /\ Below w.heap.size w w' := by
 have hsz : (⟨s.toArray⟩ : ByteArray).size = s.length := by simp [ByteArray.size]
 have ha := atoi_can hc
 rw [if_pos h] at ha
 refine (Any.strconv_Atoi_ok layAtoi ⟨s.toArray⟩ (by omega) (wv s) ha w).mono ?_
 rintro e w' ⟨rfl, h⟩
 refine ⟨rfl, ?_⟩
 rcases h with rfl | ⟨t, rfl⟩
 · exact Below.refl _ _
 · exact Go.Lib.bytesWorld_below _ _ _
theorem atoi_out (s : List UInt8) (w : World) (hv : LV w) (hc : canB s = true) (hs : s.length <= 1000000) (h : ¬ (-9223372036854775808 <= wv s /\ wv s <= 9223372036854775807)) :
   Calls Tryz.prog 150 #[strV s] w fun e w' => ∃ x T p, e = .returned (.tuple #[.int .i64 x, .iface T p]) /\ Below w.heap.size w w' := by
 obtain ⟨-, ev, he, hev⟩ := hv
 have hsz : (⟨s.toArray⟩ : ByteArray).size = s.length := by simp [ByteArray.size]
 have ha := atoi_can hc
 rw [if_neg h] at ha
 refine (Any.strconv_Atoi_range layAtoi ⟨s.toArray⟩ (by omega) ha ev w he hev).mono ?_
 rintro e w' ⟨N, rfl, -, -, hb⟩
 exact ⟨_, _, _, rfl, hb⟩

theorem extract_one (c : UInt8) (r : List UInt8) : ((⟨(c :: r).toArray⟩ : ByteArray).extract 0 1).toList = [c] := by
 have h := Go.Lib.extract_from_zero ⟨(c :: r).toArray⟩ 1
 rw [show (⟨(c :: r).toArray⟩ : ByteArray).data.toList = c :: r from rfl] at h
 rw [Go.Lib.toList_data, h]; rfl
theorem extract_rest (c : UInt8) (r : List UInt8) : (⟨(c :: r).toArray⟩ : ByteArray).extract 1 (⟨(c :: r).toArray⟩ : ByteArray).size = ⟨r.toArray⟩ := by
 have h := Go.Lib.extract_to_end ⟨(c :: r).toArray⟩ 1
 rw [show (⟨(c :: r).toArray⟩ : ByteArray).data.toList = c :: r from rfl] at h
 have e : ∀ a : ByteArray, a = ⟨a.data.toList.toArray⟩ := fun a => by cases a; simp
 rw [e (ByteArray.extract _ _ _), h]; rfl
theorem cutp_any (s : List UInt8) (w : World) :
   Calls Tryz.prog 199 #[strV s, .string ⟨#[45]⟩] w fun e w' => e = .returned (.tuple #[strV (magW s), .bool (minW s)]) /\ w = w' := by
 unfold strV
 cases s with
 | nil =>
   go_enter Tryz.func199, Tryz.ntmps199
   go_wp2
   go_ret2
   exact ⟨rfl, rfl⟩
 | cons c r =>
   have h1 := extract_one c r
   have h2 := extract_rest c r
   have hsz : (⟨(c :: r).toArray⟩ : ByteArray).size = r.length + 1 := by simp [ByteArray.size]
   have h45 : (⟨#[45]⟩ : ByteArray).toList = [45] := ByteArray.toList_mk [45]
   rw [hsz] at h2
   generalize hS : (⟨(c :: r).toArray⟩ : ByteArray) = S at *
   by_cases hc : c = 45
   · have HR : Hid (magW (c :: r) = r /\ minW (c :: r) = true) := ⟨by simp [magW, hc], by simp [minW, hc]⟩
     have t : ((S.extract 0 1).toList == [45]) = true := by rw [h1, hc]; rfl
     clear hS h1
     go_enter Tryz.func199, Tryz.ntmps199
     go_wp2
     go_ret2
     exact ⟨by rw [HR.out.1, HR.out.2]; rfl, rfl⟩
   · have HR : Hid (magW (c :: r) = c :: r /\ minW (c :: r) = false) := ⟨by simp [magW, hc], by simp [minW, hc]⟩
     have t : ((S.extract 0 1).toList == [45]) = false := by rw [h1]; simpa using hc
     have HS := Hd hS
     clear hS h1 h2
     go_enter Tryz.func199, Tryz.ntmps199
     go_wp2
     go_ret2
     exact ⟨by rw [HR.out.1, HR.out.2, HS.out]; rfl, rfl⟩

theorem RS.open_ {w : World} {v : Value} {ws : List (List UInt8)} (h : RS w v ws) : ∃ A c, v = .slice A ws.length c /\ ws.length <= c /\
   ∀ k, k < ws.length -> ∃ ad, A = some ad /\ ad.block < w.heap.size /\ w.cell? (ad.add k) = some (strV (ws.getD k [])) := by
 obtain ⟨A, c, h1, h2, h3, h4⟩ := h
 simp only [List.length_map] at h1 h2 h3 h4
 refine ⟨A, c, h1, h2, fun k hk => ?_⟩
 obtain ⟨ad, e, hb, hc⟩ := h4 k hk
 exact ⟨ad, e, hb, hc.trans (by simp [List.getElem?_map, List.getElem?_eq_getElem hk, List.getD_eq_getElem?_getD])⟩
def smallB (s : List UInt8) : Bool := decide (-1048576 <= wv s) && decide (wv s <= 1048576)
theorem all_take {α : Type} {p : α -> Bool} {l : List α} {k : Nat} {x : α} (h : l[k]? = some x) (hA : (l.take k).all p = true) (hx : p x = true) : (l.take (k + 1)).all p = true := by
 rw [List.take_add_one, h, List.all_append, hA]; simp [hx]
theorem all_not {α : Type} {p : α -> Bool} {l : List α} {k : Nat} {x : α} (h : l[k]? = some x) (hx : p x = false) : l.all p = false := by
 rw [List.all_eq_false]
 exact ⟨x, List.mem_of_getElem? h, by rw [hx]; simp⟩

def idxG {α : Type} [DecidableEq α] (v : α) : List α -> Int
 | [] => -1
 | z :: r => if v = z then 0 else if idxG v r < 0 then -1 else idxG v r + 1
theorem idxG_lo {α : Type} [DecidableEq α] (v : α) (l : List α) : -1 <= idxG v l := by
 induction l with
 | nil => exact Int.le_refl _
 | cons z r ih => simp only [idxG]; split <;> (try split) <;> omega
theorem idxG_hi {α : Type} [DecidableEq α] (v : α) (l : List α) : idxG v l < l.length := by
 induction l with
 | nil => simp [idxG]
 | cons z r ih => simp only [idxG, List.length_cons]; split <;> (try split) <;> omega
theorem idxG_at {α : Type} [DecidableEq α] {v : α} {l : List α} {k : Nat} (h : idxG v l = k) : l[k]? = some v := by
 induction l generalizing k with
 | nil => simp [idxG] at h
 | cons z r ih =>
   simp only [idxG] at h
   by_cases e : v = z
   · rw [if_pos e] at h
     obtain rfl : k = 0 := by omega
     rw [e]; rfl
   · rw [if_neg e] at h
     by_cases e2 : idxG v r < 0
     · rw [if_pos e2] at h; omega
     · rw [if_neg e2] at h
       obtain ⟨j, rfl⟩ : ∃ j, k = j + 1 := ⟨k - 1, by omega⟩
       exact ih (by omega)
theorem dropL_at {α : Type} {l : List α} {k : Nat} {z : α} (h : l[k]? = some z) : l.drop k = z :: l.drop (k + 1) := by
 obtain ⟨h1, e⟩ := List.getElem?_eq_some_iff.1 h
 rw [List.drop_eq_getElem_cons h1, e]
def kwL : List (List UInt8) := [[101, 113, 117, 105, 118, 97, 108, 101, 110, 116], [119, 105, 110, 110, 97, 98, 108, 101], [117, 110, 119, 105, 110, 110, 97, 98, 108, 101], [114, 97, 110, 107, 108, 101, 97, 115, 116], [114, 97, 110, 107, 109, 111, 115, 116], [115, 117, 112, 101, 114, 115, 116, 97, 98, 108, 101], [114, 101, 99, 117, 114, 114, 101, 110, 116], [115, 116, 97, 98, 105, 108, 105, 122, 101, 115], [103, 114, 111, 117, 112]]
def kq (i : Nat) : Bool := i == 5 || i == 6 || i == 7
def kn (i : Nat) : Bool := i == 3 || i == 4
def ka (i : Nat) : Bool := i != 8
def kb (i : Nat) : Bool := i == 0 || i == 7
def kf (i : Nat) : Bool := i == 8
def kl (i : Nat) : Int := if i = 4 then -1 else 0

theorem addr_addz (b k : Nat) : (⟨b, 0, none⟩ : Addr).add k = ⟨b, k, none⟩ := by
 unfold Addr.add
 split
 · rename_i h; rw [h]
 · simp

def pm (i : Nat) : Int := ([12, 4, 4, 6, 6, 5, 5, 13, 16] : List Int).getD i 0
def pfn (i : Nat) : Nat := ([77, 78, 79, 81, 82, 83, 85, 86, 87] : List Nat).getD i 0
def pk (i : Nat) : List Value := [strV (kwL.getD i []), .int .i64 (pm i), .int .i64 (kl i), .func (.func (pfn i)) #[] #[]]
def pkL : List Value := (List.range 9).flatMap pk
theorem pk_size : (Tryz.prog.info? 86).map (·.size) = some pkL.toArray.size := by kernel_rfl
theorem pKinds_any (w : World) : Calls Tryz.prog 45 #[] w fun e w' => e = .returned (.agg pkL.toArray) /\ Below w.heap.size w w' := by
 go_enter Tryz.func45, Tryz.ntmps45
 go_wp2_with (refine wpList_store_row rfl 86 _ _ rfl w.heap.size pkL.toArray rfl rfl _ _ (heap_alloc_new w _) pk_size (by kernel_rfl) (by kernel_rfl) ?_; rw [World.setRow_alloc_new])
 refine bodyPost_ret (results_cell_row rfl _ _ w.heap.size 86 pkL.toArray (0, 0) _ rfl (heap_alloc_new _ _) Tryz.underlying86 rfl pk_size) rfl ?_
 exact ⟨rfl, below_alloc w _⟩
def PK (w : World) (ad : Addr) : Prop := ad.block < w.heap.size /\ ∀ k, k < 9 -> ∃ S : ByteArray, S.toList = kwL.getD k [] /\ w.cell? (ad.add (k * 4)) = some (.string S) /\ w.cell? ⟨(ad.add (k * 4)).block, (ad.add (k * 4)).off + 1, none⟩ = some (.int .i64 (pm k)) /\ w.cell? ⟨(ad.add (k * 4)).block, (ad.add (k * 4)).off + 2, none⟩ = some (.int .i64 (kl k)) /\ w.cell? ⟨(ad.add (k * 4)).block, (ad.add (k * 4)).off + 3, none⟩ = some (.func (.func (pfn k)) #[] #[])
theorem PK.bel {w w' : World} {ad : Addr} (h : PK w ad) (hb : Below w.heap.size w w') : PK w' ad := by
 obtain ⟨h0, h1⟩ := h
 have hx : ∀ (k j : Nat) (v : Value), w.cell? ⟨(ad.add (k * 4)).block, (ad.add (k * 4)).off + j, none⟩ = some v -> w'.cell? ⟨(ad.add (k * 4)).block, (ad.add (k * 4)).off + j, none⟩ = some v := fun k j v h => (hb.cell (by show (ad.add (k * 4)).block < _; rw [block_of_add]; exact h0)).trans h
 refine ⟨by have := hb.size; omega, fun k hk => ?_⟩
 obtain ⟨S, hS, c0, c1, c2, c3⟩ := h1 k hk
 exact ⟨S, hS, (hb.cell (by rw [block_of_add]; exact h0)).trans c0, hx _ _ _ c1, hx _ _ _ c2, hx _ _ _ c3⟩
theorem pkL_at : ∀ k, k < 9 -> ∀ j, j < 4 -> pkL[k * 4 + j]? = (pk k)[j]? := by
 intro k hk
 match k, hk with
 | 0, _ | 1, _ | 2, _ | 3, _ | 4, _ | 5, _ | 6, _ | 7, _ | 8, _ =>
   intro j hj
   match j, hj with
   | 0, _ | 1, _ | 2, _ | 3, _ => rfl
theorem PK.of {w : World} {b : Nat} (h : BL w b 86 pkL) : PK w ⟨b, 0, none⟩ := by
 refine ⟨h.lt, fun k hk => ?_⟩
 have hx : ∀ j, j < 4 -> w.cell? ⟨b, k * 4 + j, none⟩ = (pk k)[j]? := fun j hj => (h.cell _).trans (pkL_at k hk j hj)
 rw [addr_addz]
 exact ⟨_, ByteArray.toList_mk _, hx 0 (by omega), hx 1 (by omega), hx 2 (by omega), hx 3 (by omega)⟩
def pu (i f : Nat) : Bool := ([kq i, kn i, ka i, kb i, kf i] : List Bool).getD f false
def pb (f : Nat) : Int := ([1, 2, 4, 8, 16] : List Int).getD f 0
theorem pu_and : ∀ i, i < 9 -> ∀ f, f < 5 -> (bits BinOp.and IntKind.i64 (pm i) (pb f) != 0) = pu i f := by
 intro i hi
 match i, hi with
 | 0, _ | 1, _ | 2, _ | 3, _ | 4, _ | 5, _ | 6, _ | 7, _ | 8, _ =>
   intro f hf
   match f, hf with
   | 0, _ | 1, _ | 2, _ | 3, _ | 4, _ => decide
theorem puse_one (fm fd : Int) (b : Bool) (S : ByteArray) (ls : Int) (fv : Value) (w : World) (h : (bits BinOp.and IntKind.i64 fm fd != 0) = b) :
   Calls Tryz.prog 58 #[.agg #[.string S, .int .i64 fm, .int .i64 ls, fv], .int .i64 fd] w fun e w' => e = .returned (.bool b) /\ Below w.heap.size w w' := by
 go_enter Tryz.func58, Tryz.ntmps58
 go_wp2
 go_ret
 exact ⟨by simp, below_alloc w _⟩
theorem puse_any (i f : Nat) (hi : i < 9) (hf : f < 5) (S : ByteArray) (ls : Int) (fv : Value) (w : World) :
   Calls Tryz.prog 58 #[.agg #[.string S, .int .i64 (pm i), .int .i64 ls, fv], .int .i64 (pb f)] w fun e w' => e = .returned (.bool (pu i f)) /\ Below w.heap.size w w' :=
 puse_one _ _ _ S ls fv w (pu_and i hi f hf)

theorem pWord_any (b : Nat) (ad : Addr) (n c : Nat) (S : ByteArray) (s0 : List UInt8) (v1 v2 v3 : Value) (w : World) (hb : BL w b 55 [.slice (some ad) n c]) (hn : 0 < n) (h0 : w.cell? ad = some (strV s0)) :
   Calls Tryz.prog 47 #[.agg #[.string S, v1, v2, v3], .pointer (some ⟨b, 0, none⟩)] w fun e w' => e = .returned (.bool (decide (S.toList = s0))) /\ Below w.heap.size w w' := by
 obtain ⟨W0, hW0⟩ : ∃ W0, W0 = w.alloc (.cells #[.string S, v1, v2, v3] 85) := ⟨_, rfl⟩
 have hb0 : Below w.heap.size w W0 := by rw [hW0]; exact below_alloc w _
 have hK : BL W0 w.heap.size 85 [.string S, v1, v2, v3] := by rw [hW0]; exact BL.new' w _ _
 have k0 := hK.cell 0
 have c0 := (hb.bel hb0).cell 0
 have d0 := (hb0.cell (World.block_lt_of_cell? _ _ h0)).trans h0
 have hn1 : (0 : Int) < (n : Int) := by omega
 obtain ⟨Z, hZ⟩ : ∃ Z, Z = ByteArray.mk s0.toArray := ⟨_, rfl⟩
 have hZl : Z.toList = s0 := by rw [hZ]; exact ByteArray.toList_mk s0
 have hZs : strV s0 = .string Z := by rw [hZ]; rfl
 rw [hZs] at d0
 have HR : Hid (decide (S.toList = s0) = (S.toList == Z.toList)) := by
   show _ = _
   rw [hZl]; by_cases h : S.toList = s0 <;> simp [h]
 have HW0 := Hd hW0
 have HB0 := Hd hb0
 clear hZ hZl hZs hb hb0 hK hW0 h0
 go_enter Tryz.func47, Tryz.ntmps47
 go_wp2_with fail
 rw [<- HW0.out]
 go_quiet (fail)
 have HBq := Hd (below_drewN HB0.out nq)
 go_wp2
 go_ret
 exact ⟨ret_b HR.out.symm, HBq.out⟩
theorem pFind_any (ad ad2 : Addr) (b n c : Nat) (s0 : List UInt8) (w : World) (hk : PK w ad) (hb : BL w b 55 [.slice (some ad2) n c]) (hn : 0 < n) (h0 : w.cell? ad2 = some (strV s0)) :
   Calls Tryz.prog 46 #[.slice (some ad) 9 9, .func (.func 47) #[] #[.pointer (some ⟨b, 0, none⟩)]] w fun e w' => e = .returned (.int .i64 (idxG s0 kwL)) /\ Below w.heap.size w w' := by
 have HK := Hd hk
 have HB := Hd hb
 have H0 := Hd h0
 clear hk hb h0
 go_enter Tryz.func46, Tryz.ntmps46
 go_wp2
 go_loopw [8] (fun i wr => ∃ k : Nat, k <= 9 /\ i = .int .i64 k /\ Hid (idxG s0 kwL = if idxG s0 (kwL.drop k) < 0 then -1 else idxG s0 (kwL.drop k) + k) /\ Hid (Below w.heap.size w wr)) (fun i _ => 9 - (intOf i).toNat)
 case atStart => exact ⟨0, Nat.zero_le _, rfl, by show _ = _; have := idxG_lo s0 kwL; simp only [List.drop_zero]; split <;> omega, Below.refl _ _⟩
 case round =>
   obtain ⟨k, hk, rfl, he, hbe⟩ := hrel
   by_cases hlt : k < 9
   · obtain ⟨S, hS, c0, c1, c2, c3⟩ := (HK.out.bel hbe.out).2 k hlt
     have HW := Hd (pWord_any b ad2 n c S s0 (.int .i64 (pm k)) (.int .i64 (kl k)) (.func (.func (pfn k)) #[] #[]) wr (HB.out.bel hbe.out) hn ((hbe.out.cell (World.block_lt_of_cell? _ _ H0.out)).trans H0.out))
     have hx : kwL[k]? = some (kwL.getD k []) := by rw [List.getD_eq_getElem?_getD, List.getElem?_eq_getElem (show k < kwL.length from hlt)]; rfl
     have HDr := Hd (dropL_at hx)
     have h := he.out
     rw [HDr.out] at h
     rw [hS] at HW
     generalize kwL.getD k [] = z at *
     generalize pm k = x1 at *
     generalize kl k = x6 at *
     generalize pfn k = x7 at *
     clear hx hS
     by_cases hb : s0 = z
     · simp only [idxG, hb, if_true] at h
       have HR : Hid ((k : Int) = idxG s0 kwL) := by show _ = _; rw [hb, h]; simp
       rw [decide_eq_true hb.symm] at HW
       clear h hb he
       go_wp2_with fail
       refine HW.out.mono ?_
       rintro e w2 ⟨rfl, hb2⟩
       have HB2 := Hd (hbe.out.trans (hb2.mono hbe.out.size))
       clear hb2
       go_wp2
       go_ret
       exact ⟨ret_i HR.out, HB2.out⟩
     · simp only [idxG, hb, if_false] at h
       have hlo := idxG_lo s0 (kwL.drop (k + 1))
       have HN : Hid (idxG s0 kwL = if idxG s0 (kwL.drop (k + 1)) < 0 then -1 else idxG s0 (kwL.drop (k + 1)) + (k + 1 : Nat)) := by
         show _ = _
         rw [h]
         by_cases c1 : idxG s0 (kwL.drop (k + 1)) < 0
         · simp [c1]
         · rw [if_neg c1, if_neg c1, if_neg (by omega)]; push_cast; omega
       rw [decide_eq_false (fun e => hb e.symm)] at HW
       clear h hlo hb he
       go_wp2_with fail
       refine HW.out.mono ?_
       rintro e w2 ⟨rfl, hb2⟩
       have HB2 := Hd (hbe.out.trans (hb2.mono hbe.out.size))
       clear hb2 c0 c1 c2 c3
       go_wp2
       go_roundw
       case rel => exact ⟨k + 1, by omega, by go_num, HN.out, HB2.out⟩
       case measure => simp [intOf]; omega
   · have h := he.out
     rw [List.drop_of_length_le (by show 9 <= k; omega)] at h
     have HR : Hid ((-1 : Int) = idxG s0 kwL) := by show _ = _; rw [h]; simp [idxG]
     clear h he
     go_wp2
     go_ret
     exact ⟨ret_i HR.out, hbe.out⟩

def facG : Int -> List Int -> Int
 | _, [] => 0
 | p, f :: r => if f < 2 \/ 1048576 < f then 2 else if p ≠ 0 /\ f % p ≠ 0 then 9 else facG f r
def facNG (n : Nat) (fs : List Int) : Int := if (fs.length : Int) > n - 1 then 5 else facG 0 fs
theorem pConn_any (g : Value) (n : Int) (es : List Tri) (w : World) (hg : GV w g n es) :
   Calls Tryz.prog 34 #[g] w fun e w' => e = .returned (.int .i64 (eGiven n es [])) /\ Below w.heap.size w w' := by
 obtain ⟨A, c, rfl, -⟩ := hg.open_
 obtain ⟨W0, hW0⟩ : ∃ W0, W0 = w.alloc (.cells #[.int .i64 n, .slice A es.length c] 25) := ⟨_, rfl⟩
 have hb0 : Below w.heap.size w W0 := by rw [hW0]; exact below_alloc w _
 have hx0 : BL W0 w.heap.size 25 [.int .i64 n, .slice A es.length c] := by rw [hW0]; exact BL.new' w _ _
 have c0 := hx0.cell 0
 have c1 := hx0.cell 1
 have HX0 := Hd hx0
 have HG0 := Hd (hg.below hb0)
 have HB0 := Hd hb0
 have HW0 := Hd hW0
 rw [hW0] at c0 c1
 clear hg hx0 hW0
 have HC := Hd (Connected_any _ n es W0 HG0.out)
 have HR : Hid (eGiven n es [] = if gcheckE n es ≠ 0 then gcheckE n es else if connL n es = false then 13 else 0) := by
   show _ = _
   unfold eGiven connL
   by_cases h : gcheckE n es = 0
   · simp [h]; rfl
   · simp [h]
 generalize eGiven n es [] = E at *
 generalize gcheckE n es = ge at *
 generalize connL n es = cb at *
 go_enter Tryz.func34, Tryz.ntmps34
 go_wp2_with fail
 rw [<- HW0.out]
 refine HC.out.mono ?_
 rintro e w2 ⟨rfl, hb2⟩
 have HB2 := Hd (HB0.out.trans (hb2.mono HB0.out.size))
 clear hb2
 by_cases h1 : ge = 0
 · subst h1
   have t1 : ((0 : Int) != 0) = false := rfl
   cases cb
   · have hR : Hid (E = 13) := by show _ = _; rw [HR.out]; rfl
     clear HR
     go_wp2
     go_ret
     exact ⟨ret_i hR.out.symm, HB2.out⟩
   · have hR : Hid (E = 0) := by show _ = _; rw [HR.out]; rfl
     clear HR
     go_wp2
     go_ret
     exact ⟨ret_i hR.out.symm, HB2.out⟩
 · have hR : Hid (E = ge) := by show _ = _; rw [HR.out, if_pos h1]
   have t1 : (ge != 0) = true := by simpa using h1
   clear HR h1
   go_wp2
   go_ret
   exact ⟨ret_i hR.out.symm, HB2.out⟩
theorem pFac_any (g v : Value) (n : Nat) (es : List Tri) (fs : List Int) (w : World) (hg : GV w g n es) (hv : RI w v fs) (hn : n <= 12) :
   Calls Tryz.prog 66 #[g, v] w fun e w' => e = .returned (.int .i64 (facNG n fs)) /\ Below w.heap.size w w' := by
 obtain ⟨A, c, rfl, -, hl, hcell⟩ := hv.open_
 obtain ⟨Ag, cg, rfl, -⟩ := hg.open_
 obtain ⟨W0, hW0⟩ : ∃ W0, W0 = w.alloc (.cells #[.int .i64 (n : Int), .slice Ag es.length cg] 25) := ⟨_, rfl⟩
 have hb0 : Below w.heap.size w W0 := by rw [hW0]; exact below_alloc w _
 have c0 := (show BL W0 w.heap.size 25 [.int .i64 (n : Int), .slice Ag es.length cg] by rw [hW0]; exact BL.new' w _ _).cell 0
 have HC := Hd hcell
 have HB0 := Hd hb0
 have HW0 := Hd hW0
 clear hv hcell hg
 by_cases h5 : (fs.length : Int) > n - 1
 · have hR : Hid (facNG n fs = 5) := by show _ = _; unfold facNG; rw [if_pos h5]
   have h5' : (n : Int) - 1 < (fs.length : Int) := h5
   rw [hW0] at c0
   clear h5 hW0
   go_enter Tryz.func66, Tryz.ntmps66
   go_wp2
   go_ret
   exact ⟨ret_i hR.out.symm, by rw [<- HW0.out]; exact HB0.out⟩
 have hR : Hid (facNG n fs = facG 0 fs) := by show _ = _; unfold facNG; rw [if_neg h5]
 have h5' : ¬ (n : Int) - 1 < (fs.length : Int) := h5
 have h12 : fs.length <= 12 := by omega
 generalize facNG n fs = E at *
 rw [hW0] at c0
 clear h5 hW0
 go_enter Tryz.func66, Tryz.ntmps66
 go_wp2_with fail
 rw [<- HW0.out]
 go_loopw [15] (fun i wr => ∃ k : Nat, k <= fs.length /\ i = .int .i64 (k : Int) /\ Hid (facG 0 fs = facG (lastF fs k) (fs.drop k)) /\ Hid (1 <= k -> 2 <= lastF fs k) /\ wr = W0) (fun i _ => fs.length - (intOf i).toNat)
 case atStart => exact ⟨0, Nat.zero_le _, rfl, rfl, fun h => absurd h (by decide), rfl⟩
 case round =>
   obtain ⟨k, hk, rfl, he, hp, rfl⟩ := hrel
   by_cases hlt : k < fs.length
   · obtain ⟨ad, f, rfl, hab, hx, hcl⟩ := HC.out k hlt
     have hcw := (HB0.out.cell (p := ad.add k) (by rw [block_of_add]; exact hab)).trans hcl
     have hdr : fs.drop k = f :: fs.drop (k + 1) := drop_at hx
     have hst : facG (lastF fs k) (f :: fs.drop (k + 1)) = if f < 2 \/ 1048576 < f then 2 else if lastF fs k ≠ 0 /\ f % lastF fs k ≠ 0 then 9 else facG f (fs.drop (k + 1)) := rfl
     have HE : Hid (E = if f < 2 \/ 1048576 < f then 2 else if lastF fs k ≠ 0 /\ f % lastF fs k ≠ 0 then 9 else facG f (fs.drop (k + 1))) := by show _ = _; rw [hR.out, he.out, hdr, hst]
     have HE0 : Hid (facG 0 fs = if f < 2 \/ 1048576 < f then 2 else if lastF fs k ≠ 0 /\ f % lastF fs k ≠ 0 then 9 else facG f (fs.drop (k + 1))) := by show _ = _; rw [he.out, hdr, hst]
     have HLa : Hid (lastF fs (k + 1) = f) := by show fs.getD k 0 = f; exact getD_of hx.out
     clear hcl hdr hst he
     by_cases h2 : f < 2
     · have hE : Hid (E = 2) := by show _ = _; rw [HE.out, if_pos (.inl h2)]
       clear HE HE0 hx hp
       go_wp2
       go_ret
       exact ⟨ret_i hE.out.symm, HB0.out⟩
     · by_cases hf2 : (1048576 : Int) < f
       · have hE : Hid (E = 2) := by show _ = _; rw [HE.out, if_pos (.inr hf2)]
         clear HE HE0 hx hp
         go_wp2
         go_ret
         exact ⟨ret_i hE.out.symm, HB0.out⟩
       have hno : ¬ (f < 2 \/ 1048576 < f) := by omega
       cases k with
       | zero =>
         have HN : Hid (facG 0 fs = facG f (fs.drop 1)) := by show _ = _; rw [HE0.out, if_neg hno, if_neg (by show ¬ ((0 : Int) ≠ 0 /\ _); simp)]
         have HF2 : Hid (2 <= f) := by show _ <= _; omega
         rw [add_zero'] at hcw
         clear HE HE0 hx hno hp
         go_wp2_with fail
         go_roundw
         case rel => exact ⟨1, by omega, by go_num, by rw [HLa.out]; exact HN.out, fun _ => by rw [HLa.out]; exact HF2.out, trivial⟩
         case measure => simp [intOf]; omega
       | succ j =>
         obtain ⟨_, y, e0, hyb, hy, hcy⟩ := HC.out j (by omega)
         cases e0
         have hcy2 := (HB0.out.cell (p := ad.add j) (by rw [block_of_add]; exact hyb)).trans hcy
         have hy2 := hp.out (by omega)
         have HLy : Hid (lastF fs (j + 1) = y) := by show fs.getD j 0 = y; exact getD_of hy.out
         rw [HLy.out] at hy2 HE HE0
         have hy0 : y ≠ 0 := by omega
         have hj1 : (j : Int) < (fs.length : Int) := by omega
         have hcz3 : wr.cell? ⟨ad.block, ad.off + (j + 1), none⟩ = some (.int .i64 f) := by simpa [Addr.add] using hcw
         clear hcy hy hx hp
         by_cases hr : f % y = 0
         · have HN : Hid (facG 0 fs = facG f (fs.drop (j + 1 + 1))) := by show _ = _; rw [HE0.out, if_neg hno, if_neg (fun h => h.2 hr)]
           have HF2 : Hid (2 <= f) := by show _ <= _; omega
           have t1 : (f % y != 0) = false := by simpa using hr
           clear HE HE0 hr hno
           go_wp2_with fail
           go_roundw
           case rel => exact ⟨j + 1 + 1, by omega, by go_num, by rw [HLa.out]; exact HN.out, fun _ => by rw [HLa.out]; exact HF2.out, trivial⟩
           case measure => simp [intOf]; omega
         · have hE : Hid (E = 9) := by show _ = _; rw [HE.out, if_neg hno, if_pos ⟨hy0, hr⟩]
           have t1 : (f % y != 0) = true := by simpa using hr
           clear HE HE0 hr hno
           go_wp2
           go_ret
           exact ⟨ret_i hE.out.symm, HB0.out⟩
   · have hE : Hid (E = 0) := by show _ = _; rw [hR.out, he.out, List.drop_of_length_le (by omega)]; rfl
     clear he hp
     go_wp2
     go_ret
     exact ⟨ret_i hE.out.symm, HB0.out⟩
end Go.Proofs.YteamhbohgoclgaaGreatDoor
