/- The library functions behind the texts of numbers, as the shelf knows them, and their contracts.
   Contracts of the texts of numbers.
   Contracts of CutPrefix and TrimPrefix at a minus sign; length, result.
   Contract of Check of integers, at the text of a number.
   Contract of checked at two texts of numbers; Of.
   The iterator groups, at a text of at most nine digits. -/
import Derived.Test.YtjfggodnfoknfaaGreatDoorM24
import Derived.Test.YtjfggodnfoknfaaGreatDoorM06
import Derived.Lib.AppendIntMem
import Derived.Lib.AtoiErrMem
import Derived.Lib.Split
import Derived.Shelf.Pu.ParseUintPublic10
import Derived.Shelf.Strconv.Itoa3
import Derived.Shelf.Strings.Builder1
set_option maxRecDepth 100000
set_option maxHeartbeats 16000000
namespace Go.Proofs.YtjfggodnfoknfaaGreatDoor
open Go.RowKit Go.Shelf

def layItoa_ren : Go.Shelf.Ren := ⟨fun | 171 => 131 | 243 => 160 | 246 => 180 | 283 => 200 | 284 => 201 | 285 => 202 | 286 => 203 | 129 => 87 | 317 => 220 | 318 => 221 | 319 => 222 | 320 => 223 | 337 => 230 | 338 => 231 | n => n, fun | 3 => 3 | 9 => 9 | 2 => 2 | 4 => 4 | 171 => 260 | 0 => 0 | 53 => 117 | 37 => 93 | 5 => 5 | 173 => 262 | 212 => 276 | 51 => 115 | 20 => 20 | 213 => 277 | 46 => 81 | 232 => 290 | 233 => 291 | n => n, fun | 17 => 0 | 18 => 3 | 19 => 4 | n => n⟩
theorem layItoa : Go.Proofs.LaysM.n171 Tryz.prog layItoa_ren := {
  mixed := by kernel_rfl
  f129 := Tryz.func87.trans (congrArg some (by kernel_rfl))
  f171 := Tryz.func131.trans (congrArg some (by kernel_rfl))
  f243 := Tryz.func160.trans (congrArg some (by kernel_rfl))
  f246 := Tryz.func180.trans (congrArg some (by kernel_rfl))
  f283 := Tryz.func200.trans (congrArg some (by kernel_rfl))
  f284 := Tryz.func201.trans (congrArg some (by kernel_rfl))
  f285 := Tryz.func202.trans (congrArg some (by kernel_rfl))
  f286 := Tryz.func203.trans (congrArg some (by kernel_rfl))
  f317 := Tryz.func220.trans (congrArg some (by kernel_rfl))
  f318 := Tryz.func221.trans (congrArg some (by kernel_rfl))
  f319 := Tryz.func222.trans (congrArg some (by kernel_rfl))
  f320 := Tryz.func223.trans (congrArg some (by kernel_rfl))
  f337 := Tryz.func230.trans (congrArg some (by kernel_rfl))
  f338 := Tryz.func231.trans (congrArg some (by kernel_rfl))
  t0 := Tryz.underlying0
  a0 := Tryz.isAgg0
  z0 := Tryz.sizeOf0
  v0 := Tryz.zeroValue0
  t2 := Tryz.underlying2
  a2 := Tryz.isAgg2
  z2 := Tryz.sizeOf2
  v2 := Tryz.zeroValue2
  t3 := Tryz.underlying3
  a3 := Tryz.isAgg3
  z3 := Tryz.sizeOf3
  v3 := Tryz.zeroValue3
  t4 := Tryz.underlying4
  a4 := Tryz.isAgg4
  z4 := Tryz.sizeOf4
  v4 := Tryz.zeroValue4
  t5 := Tryz.underlying5
  a5 := Tryz.isAgg5
  z5 := Tryz.sizeOf5
  v5 := Tryz.zeroValue5
  t9 := Tryz.underlying9
  a9 := Tryz.isAgg9
  z9 := Tryz.sizeOf9
  v9 := Tryz.zeroValue9
  t20 := Tryz.underlying20
  a20 := Tryz.isAgg20
  z20 := Tryz.sizeOf20
  v20 := Tryz.zeroValue20
  t37 := Tryz.underlying93
  a37 := Tryz.isAgg93
  z37 := Tryz.sizeOf93
  v37 := Tryz.zeroValue93
  t46 := Tryz.underlying81
  a46 := Tryz.isAgg81
  z46 := Tryz.sizeOf81
  v46 := Tryz.zeroValue81
  t51 := Tryz.underlying115
  a51 := Tryz.isAgg115
  z51 := Tryz.sizeOf115
  v51 := Tryz.zeroValue115
  t53 := Tryz.underlying117
  a53 := Tryz.isAgg117
  z53 := Tryz.sizeOf117
  v53 := Tryz.zeroValue117
  t171 := Tryz.underlying260
  a171 := Tryz.isAgg260
  z171 := Tryz.sizeOf260
  v171 := Tryz.zeroValue260
  t173 := Tryz.underlying262
  a173 := Tryz.isAgg262
  z173 := Tryz.sizeOf262
  v173 := Tryz.zeroValue262
  t212 := Tryz.underlying276
  a212 := Tryz.isAgg276
  z212 := Tryz.sizeOf276
  v212 := Tryz.zeroValue276
  t213 := Tryz.underlying277
  a213 := Tryz.isAgg277
  z213 := Tryz.sizeOf277
  t232 := Tryz.underlying290
  a232 := Tryz.isAgg290
  z232 := Tryz.sizeOf290
  v232 := Tryz.zeroValue290
  t233 := Tryz.underlying291
  a233 := Tryz.isAgg291
  z233 := Tryz.sizeOf291
  v233 := Tryz.zeroValue291
  g17 := by kernel_rfl
  g18 := by kernel_rfl
  g19 := by kernel_rfl
  i0 := by kernel_rfl
  i2 := by kernel_rfl
  i3 := by kernel_rfl
  i4 := by kernel_rfl
  i5 := by kernel_rfl
  i9 := by kernel_rfl
  i20 := by kernel_rfl
  i37 := by kernel_rfl
  i46 := by kernel_rfl
  i51 := by kernel_rfl
  i53 := by kernel_rfl
  i171 := by kernel_rfl
  i173 := by kernel_rfl
  i212 := by kernel_rfl
  i232 := by kernel_rfl
  i233 := by kernel_rfl
  m17 := by kernel_rfl
  m18 := by kernel_rfl
  m19 := by kernel_rfl }
def layWrite_ren : Go.Shelf.Ren := ⟨fun | 166 => 182 | 240 => 204 | 276 => 224 | n => n, fun | 70 => 239 | 9 => 9 | 3 => 3 | 75 => 221 | 0 => 0 | 72 => 241 | 37 => 93 | 4 => 4 | 164 => 278 | 80 => 179 | 5 => 5 | 20 => 20 | n => n, fun | n => n⟩
theorem layWrite : Go.Proofs.Lays.n166 Tryz.prog layWrite_ren := {
  mixed := by kernel_rfl
  f166 := Tryz.func182.trans (congrArg some (by kernel_rfl))
  f240 := Tryz.func204.trans (congrArg some (by kernel_rfl))
  f276 := Tryz.func224.trans (congrArg some (by kernel_rfl))
  t0 := Tryz.underlying0
  a0 := Tryz.isAgg0
  z0 := Tryz.sizeOf0
  v0 := Tryz.zeroValue0
  t3 := Tryz.underlying3
  a3 := Tryz.isAgg3
  z3 := Tryz.sizeOf3
  v3 := Tryz.zeroValue3
  t4 := Tryz.underlying4
  a4 := Tryz.isAgg4
  z4 := Tryz.sizeOf4
  v4 := Tryz.zeroValue4
  t9 := Tryz.underlying9
  a9 := Tryz.isAgg9
  z9 := Tryz.sizeOf9
  v9 := Tryz.zeroValue9
  t20 := Tryz.underlying20
  a20 := Tryz.isAgg20
  z20 := Tryz.sizeOf20
  v20 := Tryz.zeroValue20
  t37 := Tryz.underlying93
  a37 := Tryz.isAgg93
  z37 := Tryz.sizeOf93
  v37 := Tryz.zeroValue93
  t70 := Tryz.underlying239
  a70 := Tryz.isAgg239
  z70 := Tryz.sizeOf239
  v70 := Tryz.zeroValue239
  t72 := Tryz.underlying241
  a72 := Tryz.isAgg241
  z72 := Tryz.sizeOf241
  v72 := Tryz.zeroValue241
  t75 := Tryz.underlying221
  a75 := Tryz.isAgg221
  z75 := Tryz.sizeOf221
  v75 := Tryz.zeroValue221
  t164 := Tryz.underlying278
  a164 := Tryz.isAgg278
  z164 := Tryz.sizeOf278
  v164 := Tryz.zeroValue278 }
def layString_ren : Go.Shelf.Ren := ⟨fun | 169 => 184 | n => n, fun | 70 => 239 | 9 => 9 | 0 => 0 | 72 => 241 | 37 => 93 | 127 => 265 | 3 => 3 | 5 => 5 | n => n, fun | n => n⟩
theorem layString : Go.Proofs.Lays.n169 Tryz.prog layString_ren := {
  mixed := by kernel_rfl
  f169 := Tryz.func184.trans (congrArg some (by kernel_rfl))
  t0 := Tryz.underlying0
  a0 := Tryz.isAgg0
  z0 := Tryz.sizeOf0
  v0 := Tryz.zeroValue0
  t3 := Tryz.underlying3
  a3 := Tryz.isAgg3
  z3 := Tryz.sizeOf3
  v3 := Tryz.zeroValue3
  t9 := Tryz.underlying9
  a9 := Tryz.isAgg9
  z9 := Tryz.sizeOf9
  v9 := Tryz.zeroValue9
  t37 := Tryz.underlying93
  a37 := Tryz.isAgg93
  z37 := Tryz.sizeOf93
  v37 := Tryz.zeroValue93
  t70 := Tryz.underlying239
  a70 := Tryz.isAgg239
  z70 := Tryz.sizeOf239
  v70 := Tryz.zeroValue239
  t72 := Tryz.underlying241
  a72 := Tryz.isAgg241
  z72 := Tryz.sizeOf241
  v72 := Tryz.zeroValue241
  t127 := Tryz.underlying265
  a127 := Tryz.isAgg265
  z127 := Tryz.sizeOf265
  v127 := Tryz.zeroValue265 }
def layParse_ren : Go.Shelf.Ren := ⟨fun | 14 => 165 | 16 => 186 | 17 => 187 | 19 => 208 | 20 => 209 | 21 => 210 | 22 => 211 | 23 => 212 | 24 => 213 | 25 => 226 | 27 => 131 | 26 => 227 | 28 => 160 | 29 => 180 | 30 => 200 | 31 => 201 | 32 => 202 | 33 => 203 | 35 => 87 | 34 => 220 | 36 => 221 | 37 => 222 | 38 => 223 | 39 => 230 | 40 => 231 | n => n, fun | 9 => 9 | 3 => 3 | 22 => 117 | 24 => 221 | 25 => 222 | 4 => 4 | 34 => 266 | 5 => 5 | 36 => 81 | 37 => 93 | 0 => 0 | 39 => 269 | 21 => 21 | 44 => 282 | 47 => 265 | 50 => 289 | 48 => 287 | 2 => 2 | 52 => 260 | 55 => 262 | 59 => 276 | 60 => 115 | 20 => 20 | 61 => 277 | 65 => 290 | 66 => 291 | 67 => 179 | n => n, fun | 0 => 1 | 1 => 2 | 2 => 0 | 3 => 3 | 4 => 4 | n => n⟩
theorem layParse : Go.Proofs.LaysPu.n14 Tryz.prog layParse_ren := {
  mixed := by kernel_rfl
  f14 := Tryz.func165.trans (congrArg some (by kernel_rfl))
  f16 := Tryz.func186.trans (congrArg some (by kernel_rfl))
  f17 := Tryz.func187.trans (congrArg some (by kernel_rfl))
  f19 := Tryz.func208.trans (congrArg some (by kernel_rfl))
  f20 := Tryz.func209.trans (congrArg some (by kernel_rfl))
  f21 := Tryz.func210.trans (congrArg some (by kernel_rfl))
  f22 := Tryz.func211.trans (congrArg some (by kernel_rfl))
  f23 := Tryz.func212.trans (congrArg some (by kernel_rfl))
  f24 := Tryz.func213.trans (congrArg some (by kernel_rfl))
  f25 := Tryz.func226.trans (congrArg some (by kernel_rfl))
  f26 := Tryz.func227.trans (congrArg some (by kernel_rfl))
  f27 := Tryz.func131.trans (congrArg some (by kernel_rfl))
  f28 := Tryz.func160.trans (congrArg some (by kernel_rfl))
  f29 := Tryz.func180.trans (congrArg some (by kernel_rfl))
  f30 := Tryz.func200.trans (congrArg some (by kernel_rfl))
  f31 := Tryz.func201.trans (congrArg some (by kernel_rfl))
  f32 := Tryz.func202.trans (congrArg some (by kernel_rfl))
  f33 := Tryz.func203.trans (congrArg some (by kernel_rfl))
  f34 := Tryz.func220.trans (congrArg some (by kernel_rfl))
  f35 := Tryz.func87.trans (congrArg some (by kernel_rfl))
  f36 := Tryz.func221.trans (congrArg some (by kernel_rfl))
  f37 := Tryz.func222.trans (congrArg some (by kernel_rfl))
  f38 := Tryz.func223.trans (congrArg some (by kernel_rfl))
  f39 := Tryz.func230.trans (congrArg some (by kernel_rfl))
  f40 := Tryz.func231.trans (congrArg some (by kernel_rfl))
  t0 := Tryz.underlying0
  a0 := Tryz.isAgg0
  z0 := Tryz.sizeOf0
  v0 := Tryz.zeroValue0
  i0 := by kernel_rfl
  t2 := Tryz.underlying2
  a2 := Tryz.isAgg2
  z2 := Tryz.sizeOf2
  v2 := Tryz.zeroValue2
  i2 := by kernel_rfl
  t3 := Tryz.underlying3
  a3 := Tryz.isAgg3
  z3 := Tryz.sizeOf3
  v3 := Tryz.zeroValue3
  i3 := by kernel_rfl
  t4 := Tryz.underlying4
  a4 := Tryz.isAgg4
  z4 := Tryz.sizeOf4
  v4 := Tryz.zeroValue4
  i4 := by kernel_rfl
  t5 := Tryz.underlying5
  a5 := Tryz.isAgg5
  z5 := Tryz.sizeOf5
  v5 := Tryz.zeroValue5
  i5 := by kernel_rfl
  t9 := Tryz.underlying9
  a9 := Tryz.isAgg9
  z9 := Tryz.sizeOf9
  v9 := Tryz.zeroValue9
  i9 := by kernel_rfl
  t20 := Tryz.underlying20
  a20 := Tryz.isAgg20
  z20 := Tryz.sizeOf20
  v20 := Tryz.zeroValue20
  i20 := by kernel_rfl
  t21 := Tryz.underlying21
  a21 := Tryz.isAgg21
  z21 := Tryz.sizeOf21
  v21 := Tryz.zeroValue21
  i21 := by kernel_rfl
  t22 := Tryz.underlying117
  a22 := Tryz.isAgg117
  z22 := Tryz.sizeOf117
  v22 := Tryz.zeroValue117
  i22 := by kernel_rfl
  t24 := Tryz.underlying221
  a24 := Tryz.isAgg221
  z24 := Tryz.sizeOf221
  v24 := Tryz.zeroValue221
  i24 := by kernel_rfl
  t25 := Tryz.underlying222
  a25 := Tryz.isAgg222
  z25 := Tryz.sizeOf222
  v25 := Tryz.zeroValue222
  i25 := by kernel_rfl
  t34 := Tryz.underlying266
  a34 := Tryz.isAgg266
  z34 := Tryz.sizeOf266
  v34 := Tryz.zeroValue266
  i34 := by kernel_rfl
  c34 := by kernel_rfl
  t36 := Tryz.underlying81
  a36 := Tryz.isAgg81
  z36 := Tryz.sizeOf81
  v36 := Tryz.zeroValue81
  i36 := by kernel_rfl
  t37 := Tryz.underlying93
  a37 := Tryz.isAgg93
  z37 := Tryz.sizeOf93
  v37 := Tryz.zeroValue93
  i37 := by kernel_rfl
  t39 := Tryz.underlying269
  a39 := Tryz.isAgg269
  z39 := Tryz.sizeOf269
  v39 := Tryz.zeroValue269
  i39 := by kernel_rfl
  t44 := Tryz.underlying282
  a44 := Tryz.isAgg282
  z44 := Tryz.sizeOf282
  v44 := Tryz.zeroValue282
  i44 := by kernel_rfl
  t47 := Tryz.underlying265
  a47 := Tryz.isAgg265
  z47 := Tryz.sizeOf265
  v47 := Tryz.zeroValue265
  i47 := by kernel_rfl
  t48 := Tryz.underlying287
  a48 := Tryz.isAgg287
  z48 := Tryz.sizeOf287
  v48 := Tryz.zeroValue287
  i48 := by kernel_rfl
  t50 := Tryz.underlying289
  a50 := Tryz.isAgg289
  z50 := Tryz.sizeOf289
  v50 := Tryz.zeroValue289
  i50 := by kernel_rfl
  t52 := Tryz.underlying260
  a52 := Tryz.isAgg260
  z52 := Tryz.sizeOf260
  v52 := Tryz.zeroValue260
  i52 := by kernel_rfl
  t55 := Tryz.underlying262
  a55 := Tryz.isAgg262
  z55 := Tryz.sizeOf262
  v55 := Tryz.zeroValue262
  i55 := by kernel_rfl
  t59 := Tryz.underlying276
  a59 := Tryz.isAgg276
  z59 := Tryz.sizeOf276
  v59 := Tryz.zeroValue276
  i59 := by kernel_rfl
  t60 := Tryz.underlying115
  a60 := Tryz.isAgg115
  z60 := Tryz.sizeOf115
  v60 := Tryz.zeroValue115
  i60 := by kernel_rfl
  t61 := Tryz.underlying277
  a61 := Tryz.isAgg277
  z61 := Tryz.sizeOf277
  t65 := Tryz.underlying290
  a65 := Tryz.isAgg290
  z65 := Tryz.sizeOf290
  v65 := Tryz.zeroValue290
  i65 := by kernel_rfl
  t66 := Tryz.underlying291
  a66 := Tryz.isAgg291
  z66 := Tryz.sizeOf291
  v66 := Tryz.zeroValue291
  i66 := by kernel_rfl
  t67 := Tryz.underlying179
  a67 := Tryz.isAgg179
  z67 := Tryz.sizeOf179
  v67 := Tryz.zeroValue179
  i67 := by kernel_rfl
  g0 := by kernel_rfl
  m0 := by kernel_rfl
  g1 := by kernel_rfl
  m1 := by kernel_rfl
  g2 := by kernel_rfl
  m2 := by kernel_rfl
  g3 := by kernel_rfl
  m3 := by kernel_rfl
  g4 := by kernel_rfl
  m4 := by kernel_rfl }
/-- What the library's table of powers of 10 holds. -/
def TB (w : World) : Prop := Go.Lib.TabIs Tryz.prog w "internal/strconv.uint64pow10" .u64 Go.Lib.pow10Tab
theorem TB.below {w w' : World} (h : TB w) (hb : Below w.heap.size w w') : TB w' := Go.Lib.tabBelow_of_tabIs h w' hb
theorem itoa_any (z : Int) (w : World) (h0 : -9223372036854775808 ≤ z) (h1 : z ≤ 9223372036854775807) (ht : TB w) :
    Calls Tryz.prog 131 #[.int .i64 z] w fun e w' => e = .returned (zV z) ∧ Below w.heap.size w w' :=
  (Go.Proofs.Any.strconv_Itoa layItoa z h0 h1 w ht).mono fun _ _ h => by
    obtain ⟨e, k, os, hw⟩ := h
    exact ⟨e, by rw [hw]; exact Go.Lib.below_grow _ _ (Nat.le_refl _) _ _⟩
theorem parse_any (u : Nat) (w : World) (hu : u < 1000000000) :
    Calls Tryz.prog 165 #[.string ⟨(Go.Lib.decDigits u).toArray⟩, .int .i64 10, .int .i64 32] w fun e w' => e = .returned (.tuple #[.int .u64 (u : Int), .nilIface]) ∧ Below w.heap.size w w' := by
  have hl := dec_len u hu
  refine (Go.Proofs.Any.strconv_ParseUint_10_at32_ok layParse ⟨(Go.Lib.decDigits u).toArray⟩ (by show (Go.Lib.decDigits u).toArray.size ≤ _; simp; omega) u (by exact parse32 hu) w).mono fun _ _ h => ?_
  obtain ⟨e, hw⟩ := h
  refine ⟨e, ?_⟩
  rcases hw with rfl | rfl
  · exact Below.refl _ _
  · exact Go.Lib.bytesWorld_below _ _ _
theorem extraW : Go.Proofs.Builder.Extra Tryz.prog layWrite_ren := {
  sizeBuilder := by kernel_rfl
  liesBuilder := by kernel_rfl
  t5 := Tryz.underlying5
  a5 := Tryz.isAgg5
  z5 := Tryz.sizeOf5
  v5 := Tryz.zeroValue5
  infoByte := by kernel_rfl
  cellsByte := by kernel_rfl
  sizeByte := by kernel_rfl
  neB5 := by decide }
theorem extraS : Go.Proofs.Builder.Extra Tryz.prog layString_ren := {
  sizeBuilder := by kernel_rfl
  liesBuilder := by kernel_rfl
  t5 := Tryz.underlying5
  a5 := Tryz.isAgg5
  z5 := Tryz.sizeOf5
  v5 := Tryz.zeroValue5
  infoByte := by kernel_rfl
  cellsByte := by kernel_rfl
  sizeByte := by kernel_rfl
  neB5 := by decide }
/-- A builder at its first write, and read. -/
theorem write_any (B : Nat) (s : List UInt8) (w : World) (hB : w.heap[B]? = some (.cells #[.pointer none, .slice none 0 0] 241 (0, 0))) (hs : s.length ≤ 1000) (hBw : B ≤ w.heap.size) :
    Calls Tryz.prog 182 #[.pointer (some ⟨B, 0, none⟩), .string ⟨s.toArray⟩] w fun e w' => e = .returned (.tuple #[.int .i64 (s.length : Int), .nilIface]) ∧ Go.Lib.IsBuilder 241 5 B B (Go.Lib.byteCells s) w' ∧ Below B w w' := by
  have h0 : Go.Lib.IsBuilder 241 5 B B [] w := .inl ⟨Nat.le_refl _, .slice none 0 0, hB, World.ownsRow_nil _ _ _ _, by simp [Value.ownBlock]⟩
  have hsz : (⟨s.toArray⟩ : ByteArray).size = s.length := by simp [ByteArray.size]
  refine (Go.Proofs.Any.Builder_WriteString layWrite extraW B B [] ⟨s.toArray⟩ w h0 (by rw [hsz]; simp; omega) hBw).mono fun _ _ h => ?_
  obtain ⟨e, hb, hw⟩ := h
  exact ⟨by rw [e, hsz], .inr (by rw [List.nil_append] at hb; exact hb), hw⟩
theorem string_any (B : Nat) (s : List UInt8) (w : World) (h : Go.Lib.IsBuilder 241 5 B B (Go.Lib.byteCells s) w) (h0 : s ≠ []) :
    Calls Tryz.prog 184 #[.pointer (some ⟨B, 0, none⟩)] w fun e w' => e = .returned (.string ⟨s.toArray⟩) ∧ Below B w w' :=
  Go.Proofs.Any.Builder_String layString extraS B B s w h h0
end Go.Proofs.YtjfggodnfoknfaaGreatDoor

namespace Go.Proofs.YtjfggodnfoknfaaGreatDoor
open Go.RowKit
theorem ntext_any (v : Value) (a : Nat) (w : World) (hv : NV w v a) (ht : TB w) :
    Calls Tryz.prog 162 #[v] w fun e w' => e = .returned (zV a) ∧ Below w.heap.size w w' := by
  have hz : zV (a : Int) = .string ⟨(Go.Lib.decDigits a).toArray⟩ := by unfold zV; rw [itoa_nat]
  have ha := hv.2
  rcases hv.parts with ⟨rfl, p, c, rfl⟩ | ⟨h0, ad, c, rfl, -, hb, hc⟩
  · rw [hz, dec_zero]
    clear hz hv
    go_enter Tryz.func162, Tryz.ntmps162
    go_wp2
    go_ret
    exact ⟨rfl, Below.refl _ _⟩
  · have HI : Hid (∀ W, Below w.heap.size w W → Calls Tryz.prog 131 #[.int .i64 (a : Int)] W fun e w' => e = .returned (.string ⟨(Go.Lib.decDigits a).toArray⟩) ∧ Below W.heap.size W w') := fun W h => by
      rw [← hz]; exact itoa_any a W (by omega) (by omega) (ht.below h)
    have HL : Hid ((Go.Lib.decDigits a).length ≤ 1000) := by have := dec_len a ha; show _ ≤ _; omega
    have h3 : wrap64 (a : Int) = (a : Int) := by rw [IntWalk.wrap64_in] <;> omega
    have HNe := Lib.hid (dec_ne a)
    rw [hz]
    generalize Go.Lib.decDigits a = s at *
    clear hz hv ha h0 ht
    go_enter Tryz.func162, Tryz.ntmps162
    go_wp2_with fail
    refine wp_loop_rounds 2 ?_
    rw [rounds_succ]
    go_wp2_with fail
    refine (HI.out _ (below_alloc w _)).mono ?_
    rintro e w2 ⟨rfl, hb2⟩
    have hblk : w2.heap[w.heap.size]? = some (.cells #[.pointer none, .slice none 0 0] 241 (0, 0)) := by
      rw [hb2.block _ (by simp)]; exact heap_alloc_new w _
    have hs2 := hb2.size
    rw [World.size_alloc] at hs2
    have HW := Lib.hid (write_any w.heap.size s w2 hblk HL.out (by omega))
    have HB2 := Lib.hid ((below_alloc w (.cells #[.pointer none, .slice none 0 0] 241)).trans (hb2.mono (by simp)))
    clear hblk hs2 hb2
    go_wp2_with fail
    refine HW.out.mono ?_
    rintro e w3 ⟨rfl, hib, hb3⟩
    have HS := Lib.hid (string_any w.heap.size s w3 hib HNe.out)
    have HB3 := Lib.hid (HB2.out.trans hb3)
    clear hib hb3
    go_wp2_with fail
    rw [rounds_succ]
    go_wp2_with fail
    refine HS.out.mono ?_
    rintro e w4 ⟨rfl, hb4⟩
    go_wp2
    go_ret
    exact ⟨rfl, HB3.out.trans hb4⟩
theorem add_bytes (l : List UInt8) : (⟨#[45]⟩ : ByteArray) ++ ⟨l.toArray⟩ = ⟨(45 :: l).toArray⟩ := by
  have e : ∀ a : ByteArray, a = ⟨a.data.toList.toArray⟩ := fun a => by cases a; simp
  rw [e (_ ++ _), ByteArray.data_append]
  simp
theorem text_any (v : Value) (z : Int) (w : World) (hv : ZN w v z) (ht : TB w) :
    Calls Tryz.prog 133 #[v] w fun e w' => e = .returned (zV z) ∧ Below w.heap.size w w' := by
  obtain ⟨p, n, c, rfl, hu⟩ := hv.parts
  have hb0 := below_alloc w (.cells #[.bool (decide (z < 0)), .slice p n c] 131)
  have HT := Lib.hid (ntext_any (.slice p n c) z.natAbs (w.alloc (.cells #[.bool (decide (z < 0)), .slice p n c] 131)) (hu.below hb0) (ht.below hb0))
  have HB0 := Lib.hid hb0
  have hab := add_bytes (Go.Lib.decDigits z.natAbs)
  have HZ : Hid (zV z = if z < 0 then .string ⟨(45 :: Go.Lib.decDigits z.natAbs).toArray⟩ else .string ⟨(Go.Lib.decDigits z.natAbs).toArray⟩) := by
    show _ = _
    unfold zV
    rw [itoa_parts]
    split <;> rfl
  have HY : Hid (zV (z.natAbs : Int) = .string ⟨(Go.Lib.decDigits z.natAbs).toArray⟩) := by
    show _ = _
    unfold zV
    rw [itoa_nat]
  rw [HY.out] at HT
  by_cases hz : z < 0
  · have HR : Hid (zV z = .string ⟨(45 :: Go.Lib.decDigits z.natAbs).toArray⟩) := by show _ = _; rw [HZ.out, if_pos hz]
    have hadd := fun W => run_string_add_lists (P := Tryz.prog) W [45] (Go.Lib.decDigits z.natAbs) (by simp) (by have := dec_len z.natAbs hu.2; omega)
    rw [decide_eq_true hz] at HT HB0 ⊢
    rw [HR.out]
    generalize Go.Lib.decDigits z.natAbs = l at *
    clear hv hu ht hb0 hz HZ HY HR hab
    go_enter Tryz.func133, Tryz.ntmps133
    go_wp2_with fail
    refine HT.out.mono ?_
    rintro e w2 ⟨rfl, hb2⟩
    go_wp2
    go_ret
    exact ⟨rfl, HB0.out.trans (hb2.mono HB0.out.size)⟩
  · have HR : Hid (zV z = .string ⟨(Go.Lib.decDigits z.natAbs).toArray⟩) := by show _ = _; rw [HZ.out, if_neg hz]
    rw [decide_eq_false hz] at HT HB0 ⊢
    rw [HR.out]
    generalize (⟨(Go.Lib.decDigits z.natAbs).toArray⟩ : ByteArray) = S at *
    clear hv hu ht hb0 hz HZ HY HR hab
    go_enter Tryz.func133, Tryz.ntmps133
    go_wp2_with fail
    refine HT.out.mono ?_
    rintro e w2 ⟨rfl, hb2⟩
    go_wp2
    go_ret
    exact ⟨rfl, HB0.out.trans (hb2.mono HB0.out.size)⟩
end Go.Proofs.YtjfggodnfoknfaaGreatDoor

namespace Go.Proofs.YtjfggodnfoknfaaGreatDoor
open Go.RowKit
theorem extr_one (c : UInt8) (r : List UInt8) : ((⟨(c :: r).toArray⟩ : ByteArray).extract 0 1).toList = [c] := by
  have h := Go.Lib.extract_from_zero ⟨(c :: r).toArray⟩ 1
  rw [show (⟨(c :: r).toArray⟩ : ByteArray).data.toList = c :: r from rfl] at h
  rw [Go.Lib.toList_data, h]; rfl
theorem extr_rest (c : UInt8) (r : List UInt8) : (⟨(c :: r).toArray⟩ : ByteArray).extract 1 (⟨(c :: r).toArray⟩ : ByteArray).size = ⟨r.toArray⟩ := by
  have h := Go.Lib.extract_to_end ⟨(c :: r).toArray⟩ 1
  rw [show (⟨(c :: r).toArray⟩ : ByteArray).data.toList = c :: r from rfl] at h
  have e : ∀ a : ByteArray, a = ⟨a.data.toList.toArray⟩ := fun a => by cases a; simp
  rw [e (ByteArray.extract _ _ _), h]; rfl
/-- A text in memory's form. -/
def bV (l : List UInt8) : Value := .string ⟨l.toArray⟩
theorem cut_minus (r : List UInt8) (w : World) :
    Calls Tryz.prog 132 #[bV (45 :: r), .string ⟨#[45]⟩] w fun e w' => e = .returned (.tuple #[bV r, .bool true]) ∧ w' = w := by
  unfold bV
  have h1 := extr_one 45 r
  have h2 := extr_rest 45 r
  have hsz : (⟨(45 :: r).toArray⟩ : ByteArray).size = r.length + 1 := by simp [ByteArray.size]
  have h45 : (⟨#[45]⟩ : ByteArray).toList = [45] := ByteArray.toList_mk [45]
  rw [hsz] at h2
  generalize (⟨(45 :: r).toArray⟩ : ByteArray) = S at *
  have t : ((S.extract 0 1).toList == [45]) = true := by rw [h1]; rfl
  clear h1
  go_enter Tryz.func132, Tryz.ntmps132
  go_wp2
  go_ret2
  exact ⟨rfl, rfl⟩
theorem cut_plain (c : UInt8) (r : List UInt8) (w : World) (hc : c ≠ 45) :
    Calls Tryz.prog 132 #[bV (c :: r), .string ⟨#[45]⟩] w fun e w' => e = .returned (.tuple #[bV (c :: r), .bool false]) ∧ w' = w := by
  unfold bV
  have h1 := extr_one c r
  have hsz : (⟨(c :: r).toArray⟩ : ByteArray).size = r.length + 1 := by simp [ByteArray.size]
  have h45 : (⟨#[45]⟩ : ByteArray).toList = [45] := ByteArray.toList_mk [45]
  generalize (⟨(c :: r).toArray⟩ : ByteArray) = S at *
  have t : ((S.extract 0 1).toList == [45]) = false := by rw [h1]; simpa using hc
  clear h1 hc
  go_enter Tryz.func132, Tryz.ntmps132
  go_wp2
  go_ret2
  exact ⟨rfl, rfl⟩
theorem trim_minus (r : List UInt8) (w : World) :
    Calls Tryz.prog 163 #[bV (45 :: r), .string ⟨#[45]⟩] w fun e w' => e = .returned (bV r) ∧ w' = w := by
  unfold bV
  have h1 := extr_one 45 r
  have h2 := extr_rest 45 r
  have hsz : (⟨(45 :: r).toArray⟩ : ByteArray).size = r.length + 1 := by simp [ByteArray.size]
  have h45 : (⟨#[45]⟩ : ByteArray).toList = [45] := ByteArray.toList_mk [45]
  rw [hsz] at h2
  generalize (⟨(45 :: r).toArray⟩ : ByteArray) = S at *
  have t : ((S.extract 0 1).toList == [45]) = true := by rw [h1]; rfl
  clear h1
  go_enter Tryz.func163, Tryz.ntmps163
  go_wp2
  go_ret
  exact ⟨rfl, rfl⟩
theorem trim_plain (c : UInt8) (r : List UInt8) (w : World) (hc : c ≠ 45) :
    Calls Tryz.prog 163 #[bV (c :: r), .string ⟨#[45]⟩] w fun e w' => e = .returned (bV (c :: r)) ∧ w' = w := by
  unfold bV
  have h1 := extr_one c r
  have hsz : (⟨(c :: r).toArray⟩ : ByteArray).size = r.length + 1 := by simp [ByteArray.size]
  have h45 : (⟨#[45]⟩ : ByteArray).toList = [45] := ByteArray.toList_mk [45]
  generalize (⟨(c :: r).toArray⟩ : ByteArray) = S at *
  have t : ((S.extract 0 1).toList == [45]) = false := by rw [h1]; simpa using hc
  clear h1 hc
  go_enter Tryz.func163, Tryz.ntmps163
  go_wp2
  go_ret
  exact ⟨rfl, rfl⟩
theorem dec_cons (u : Nat) : ∃ c r, Go.Lib.decDigits u = c :: r ∧ c ≠ 45 := by
  have h := dec_ne45 u
  cases hd : Go.Lib.decDigits u with
  | nil => exact absurd hd (dec_ne u)
  | cons c r => exact ⟨c, r, rfl, by rw [hd] at h; exact h⟩
theorem zV_neg {z : Int} (h : z < 0) : zV z = bV (45 :: Go.Lib.decDigits z.natAbs) := by unfold zV bV; rw [itoa_parts, if_pos h]
theorem zV_pos {z : Int} (h : ¬ z < 0) : zV z = bV (Go.Lib.decDigits z.natAbs) := by unfold zV bV; rw [itoa_parts, if_neg h]
/-- The digits and the sign of a number's text. -/
theorem cutz_any (z : Int) (w : World) :
    Calls Tryz.prog 132 #[zV z, .string ⟨#[45]⟩] w fun e w' => e = .returned (.tuple #[bV (Go.Lib.decDigits z.natAbs), .bool (decide (z < 0))]) ∧ w' = w := by
  by_cases h : z < 0
  · rw [zV_neg h, decide_eq_true h]; exact cut_minus _ w
  · rw [zV_pos h, decide_eq_false h]
    obtain ⟨c, r, e, hc⟩ := dec_cons z.natAbs
    rw [e]; exact cut_plain c r w hc
theorem trimz_any (z : Int) (w : World) :
    Calls Tryz.prog 163 #[zV z, .string ⟨#[45]⟩] w fun e w' => e = .returned (bV (Go.Lib.decDigits z.natAbs)) ∧ w' = w := by
  by_cases h : z < 0
  · rw [zV_neg h]; exact trim_minus _ w
  · rw [zV_pos h]
    obtain ⟨c, r, e, hc⟩ := dec_cons z.natAbs
    rw [e]; exact trim_plain c r w hc
theorem length_any (z : Int) (w : World) :
    Calls Tryz.prog 134 #[zV z] w fun e w' => e = .returned (.int .i64 ((Go.Lib.decDigits z.natAbs).length : Int)) ∧ w' = w := by
  have HT := Lib.hid (trimz_any z w)
  unfold zV bV at *
  have hsz : (⟨(Go.Lib.decDigits z.natAbs).toArray⟩ : ByteArray).size = (Go.Lib.decDigits z.natAbs).length := by simp [ByteArray.size]
  generalize (Go.Lib.decDigits z.natAbs).length = n at *
  generalize (⟨(Go.Lib.decDigits z.natAbs).toArray⟩ : ByteArray) = S at *
  go_enter Tryz.func134, Tryz.ntmps134
  go_wp2_with fail
  refine HT.out.mono ?_
  rintro e w2 ⟨rfl, rfl⟩
  go_wp2
  go_ret
  exact ⟨rfl, rfl⟩
theorem iresult_any (v : Value) (z : Int) (w : World) (hv : ZN w v z) (ht : TB w) :
    Calls Tryz.prog 94 #[v] w fun e w' => e = .returned (.tuple #[zV z, .int .i64 0]) ∧ Below w.heap.size w w' := by
  obtain ⟨p, n, c, rfl, hu⟩ := hv.parts
  have hb0 := below_alloc w (.cells #[.bool (decide (z < 0)), .slice p n c] 131)
  have HT := Lib.hid (text_any (.agg #[.bool (decide (z < 0)), .slice p n c]) z (w.alloc (.cells #[.bool (decide (z < 0)), .slice p n c] 131)) (hv.below hb0) (ht.below hb0))
  have HL : Hid (∀ W, Calls Tryz.prog 134 #[zV z] W fun e w' => e = .returned (.int .i64 ((Go.Lib.decDigits z.natAbs).length : Int)) ∧ w' = W) := fun W => length_any z W
  have hl : ¬ (1024 : Int) < ((Go.Lib.decDigits z.natAbs).length : Int) := by have := dec_len z.natAbs hu.2; omega
  have HB0 := Lib.hid hb0
  unfold zV at *
  generalize (Go.Lib.decDigits z.natAbs).length = m at *
  generalize (⟨(Go.Lib.itoa z).toArray⟩ : ByteArray) = S at *
  clear hv hu ht hb0
  go_enter Tryz.func94, Tryz.ntmps94
  go_wp2_with fail
  refine HT.out.mono ?_
  rintro e w2 ⟨rfl, hb2⟩
  go_wp2_with fail
  refine (HL.out _).mono ?_
  rintro e w3 ⟨rfl, rfl⟩
  go_wp2
  go_ret2
  exact ⟨rfl, HB0.out.trans (hb2.mono HB0.out.size)⟩
end Go.Proofs.YtjfggodnfoknfaaGreatDoor

namespace Go.Proofs.YtjfggodnfoknfaaGreatDoor
open Go.RowKit
theorem icheck_any (z : Int) (w : World) (hz : z.natAbs < 1000000000) :
    Calls Tryz.prog 93 #[zV z] w fun e w' => e = .returned (.int .i64 0) ∧ Below w.heap.size w w' := by
  have HC := Lib.hid (cutz_any z w)
  have hl := dec_len z.natAbs hz
  have hne : 0 < (Go.Lib.decDigits z.natAbs).length := List.length_pos_iff.2 (dec_ne _)
  have hdg := dec_digits z.natAbs
  have hm : ((Go.Lib.decDigits z.natAbs).getD 0 0 = 48 ∧ (Go.Lib.decDigits z.natAbs).length = 1 ∧ decide (z < 0) = false) ∨ (Go.Lib.decDigits z.natAbs).getD 0 0 ≠ 48 := by
    by_cases h0 : z = 0
    · left
      subst h0
      simp [dec_zero]
    · right
      exact dec_head _ (by omega)
  generalize decide (z < 0) = m at *
  generalize Go.Lib.decDigits z.natAbs = l at *
  obtain ⟨S, hS⟩ : ∃ S : ByteArray, S = ⟨l.toArray⟩ := ⟨_, rfl⟩
  have hsz : S.size = l.length := by rw [hS]; simp [ByteArray.size]
  have hSl : S.data.toList = l := by rw [hS]
  have hcv := Go.Lib.run_convert_string_bytes (P := Tryz.prog) w 9 93 5 S Tryz.underlying9 Tryz.underlying93 Tryz.underlying5
  have hcell : ∀ k, k < l.length → ∃ d : Nat, (Go.Lib.bytesWorld w 5 S).cell? ⟨w.heap.size, k, none⟩ = some (.int .u8 (d : Int)) ∧ 48 ≤ d ∧ d ≤ 57 := fun k hk => by
    refine ⟨(l.getD k 0).toNat, ?_, ?_⟩
    · rw [Go.Lib.bytesWorld_cell w 5 S k (by rw [hsz]; exact hk), hSl]
    · refine hdg _ ?_
      rw [List.getD_eq_getElem?_getD, List.getElem?_eq_getElem hk]
      exact List.getElem_mem hk
  have hix : ∀ W : World, (Instr.index 9 (.string S) (.int .i64 0)).run Tryz.prog W = .ok (.int .u8 ((l.getD 0 0).toNat : Int)) W := fun W => by
    rw [run_index_string _ _ _ _ _ Tryz.underlying9, dif_pos (by rw [hsz]; omega)]
    subst hS
    cases l with
    | nil => simp at hne
    | cons a r => simp [ByteArray.getElem_eq_getElem_data]
  have HB1 := Lib.hid (Go.Lib.bytesWorld_below w 5 S)
  have hemp : (S.toList == []) = false := by
    rw [Go.Lib.toList_data, hSl]
    cases l with
    | nil => simp at hne
    | cons a r => rfl
  have HCell := Lib.hid hcell
  have hN : S.size ≤ 9 := by omega
  have HSz := Lib.hid hsz
  have HCS : Hid (bV l = .string S) := by show _ = _; rw [hS]; rfl
  rw [HCS.out] at HC
  unfold zV at HC ⊢
  generalize (⟨(Go.Lib.itoa z).toArray⟩ : ByteArray) = T at *
  have hm2 : (((l.getD 0 0).toNat : Int) == 48) = false ∨ ((((l.getD 0 0).toNat : Int) == 48) = true ∧ ¬ (1 : Int) < (S.size : Int) ∧ m = false) := by
    rcases hm with ⟨h1, h2, h3⟩ | h1
    · right
      rw [h1]
      exact ⟨rfl, by omega, h3⟩
    · left
      rw [beq_eq_false_iff_ne]
      intro h
      exact h1 (UInt8.toNat_inj.1 (by show (l.getD 0 0).toNat = 48; omega))
  generalize ((l.getD 0 0).toNat : Int) = c0 at *
  generalize Go.Lib.bytesWorld w 5 S = W1 at *
  generalize grownCap w S.size 0 5 = cap at *
  have hl1 : ¬ (1024 : Int) < (S.size : Int) := by omega
  clear hz hl hdg hm hS hSl hcell hsz hne HCS
  go_enter Tryz.func93, Tryz.ntmps93
  go_wp2_with fail
  refine HC.out.mono ?_
  rintro e w2 ⟨rfl, rfl⟩
  go_wp2_with fail
  go_loopw [15] (fun i wr => ∃ k : Nat, k ≤ S.size ∧ i = .int .i64 (k : Int) ∧ wr = W1) (fun i _ => S.size - (intOf i).toNat)
  case atStart => exact ⟨0, Nat.zero_le _, rfl, rfl⟩
  case round =>
    obtain ⟨k, hk, rfl, rfl⟩ := hrel
    by_cases hlt : k < S.size
    · obtain ⟨d, hc, h48, h57⟩ := HCell.out k (by have := HSz.out; omega)
      have t1 : ¬ (d : Int) < 48 := by omega
      have t2 : ¬ (57 : Int) < (d : Int) := by omega
      clear h48 h57
      go_wp2
      go_roundw
      case rel => exact ⟨k + 1, by omega, by go_num, trivial⟩
      case measure => simp [intOf]; omega
    · rcases hm2 with t0 | ⟨t0, t1, rfl⟩
      · go_wp2
        go_ret
        exact ⟨rfl, HB1.out⟩
      · go_wp2
        go_ret
        exact ⟨rfl, HB1.out⟩
end Go.Proofs.YtjfggodnfoknfaaGreatDoor

namespace Go.Proofs.YtjfggodnfoknfaaGreatDoor
open Go.RowKit
theorem checked_any (a b : Int) (g c : Nat) (w : World) (ha : a.natAbs < 1000000000) (hb : b.natAbs < 1000000000) (h0 : w.cell? ⟨g, 0, none⟩ = some (zV a)) (h1 : w.cell? ⟨g, 1, none⟩ = some (zV b)) (hg : g < w.heap.size) :
    Calls Tryz.prog 198 #[.slice (some ⟨g, 0, none⟩) 2 c] w fun e w' => e = .returned (.int .i64 0) ∧ Below w.heap.size w w' := by
  have HA : Hid (∀ W, Calls Tryz.prog 93 #[zV a] W fun e w' => e = .returned (.int .i64 0) ∧ Below W.heap.size W w') := fun W => icheck_any a W ha
  have HB : Hid (∀ W, Calls Tryz.prog 93 #[zV b] W fun e w' => e = .returned (.int .i64 0) ∧ Below W.heap.size W w') := fun W => icheck_any b W hb
  have HK : Hid (∀ W, Below w.heap.size w W → W.cell? ⟨g, 1, none⟩ = some (zV b)) := fun W h => (h.cell (by exact hg)).trans h1
  clear ha hb hg h1
  unfold zV at *
  generalize (⟨(Go.Lib.itoa a).toArray⟩ : ByteArray) = S at *
  generalize (⟨(Go.Lib.itoa b).toArray⟩ : ByteArray) = T at *
  go_enter Tryz.func198, Tryz.ntmps198
  go_wp2_with fail
  refine wp_loop_rounds 3 ?_
  rw [rounds_succ]
  go_wp2_with fail
  refine (HA.out _).mono ?_
  rintro e w2 ⟨rfl, hb2⟩
  have h1 := HK.out w2 hb2
  have HB2 := Lib.hid hb2
  clear hb2 h0
  go_wp2_with fail
  rw [rounds_succ]
  go_wp2_with fail
  refine (HB.out _).mono ?_
  rintro e w3 ⟨rfl, hb3⟩
  have HB3 := Lib.hid (HB2.out.trans (hb3.mono HB2.out.size))
  clear hb3 h1
  go_wp2_with fail
  rw [rounds_succ]
  go_wp2
  go_ret
  exact ⟨rfl, HB3.out⟩
theorem iof_any (z : Int) (w : World) (h0 : -9223372036854775808 ≤ z) (h1 : z ≤ 9223372036854775807) (ht : TB w) :
    Calls Tryz.prog 92 #[.int .i64 z] w fun e w' => e = .returned (zV z) ∧ Below w.heap.size w w' := by
  have HI := Lib.hid (itoa_any z w h0 h1 ht)
  unfold zV at *
  generalize (⟨(Go.Lib.itoa z).toArray⟩ : ByteArray) = S at *
  clear h0 h1 ht
  go_enter Tryz.func92, Tryz.ntmps92
  go_wp2_with fail
  refine HI.out.mono ?_
  rintro e w2 ⟨rfl, hb2⟩
  go_wp2
  go_ret
  exact ⟨rfl, hb2⟩
end Go.Proofs.YtjfggodnfoknfaaGreatDoor

namespace Go.Proofs.YtjfggodnfoknfaaGreatDoor
open Go.RowKit Go.Shelf
attribute [local go_sem] Oper.semAt_some
theorem groups_any (l : List UInt8) (w : World) : Calls Tryz.prog 135 #[bV l] w fun e w' =>
    e = .returned (.func (.func 164) #[] #[.pointer (some ⟨w.heap.size, 0, none⟩)]) ∧ w.alloc (.cells #[bV l] 9) = w' := by
  unfold bV
  generalize (⟨l.toArray⟩ : ByteArray) = S
  go_enter Tryz.func135, Tryz.ntmps135
  go_wp2
  go_ret
  exact ⟨rfl, rfl⟩
theorem groups1_iter (hx u : Nat) (hu : u < 1000000000) :
    IterC Tryz.prog 164 #[.pointer (some ⟨hx, 0, none⟩)] (fun x : Nat => #[.int .u32 (x : Int)]) (fun pre x _ => pre = [] ∧ x = u)
      (fun A B => Below A.heap.size A B) (fun _ _ => True) (fun xs => xs = [u]) (fun _ => True) (fun W => BL W hx 9 [bV (Go.Lib.decDigits u)]) := by
  intro N l J Jx W hpre hJ hJx hY h0
  have HJ := Lib.hid hJ
  have HY := Lib.hid hY
  have x0 : W.cell? ⟨hx, 0, none⟩ = some (bV (Go.Lib.decDigits u)) := hpre.cell 0
  have HPa : Hid (Calls Tryz.prog 165 #[bV (Go.Lib.decDigits u), .int .i64 10, .int .i64 32] W fun e w' => e = .returned (.tuple #[.int .u64 (u : Int), .nilIface]) ∧ Below W.heap.size W w') := parse_any u W hu
  have hl := dec_len u hu
  have hne : 0 < (Go.Lib.decDigits u).length := List.length_pos_iff.2 (dec_ne _)
  have hex : (⟨(Go.Lib.decDigits u).toArray⟩ : ByteArray).extract 0 (⟨(Go.Lib.decDigits u).toArray⟩ : ByteArray).size = ⟨(Go.Lib.decDigits u).toArray⟩ := ByteArray.extract_zero_size
  have hsz : (⟨(Go.Lib.decDigits u).toArray⟩ : ByteArray).size = (Go.Lib.decDigits u).length := by simp [ByteArray.size]
  unfold bV at *
  generalize (⟨(Go.Lib.decDigits u).toArray⟩ : ByteArray) = D at *
  have hn1 : 0 < D.size := by omega
  have hn9 : D.size ≤ 9 := by omega
  have t1 : (0 : Int) < (D.size : Int) := by omega
  have t2 : (u : Int) % 4294967296 = (u : Int) := by omega
  have t3 : max (0 : Int) ((D.size : Int) - 9) = 0 := by omega
  clear hJ hY hpre hJx hl hne hsz hu
  refine callsIn_of_wp Tryz.func164 rfl trivial ?_ rfl
  simp only [Tryz.ntmps164, List.size_toArray, List.length_cons, List.length_nil, Nat.reduceAdd, Nat.reduceSub, Array.replicate_succ, Array.replicate_zero, List.push_toArray, List.append_toArray, List.nil_append, List.cons_append]
  gi_wp2
  refine wpIn_loop_rounds 2 ?_
  rw [roundsIn_succ]
  gi_wp2_with fail
  refine ⟨trivial, fun h => (by simp [Fence.wide] at h), (callsIn_wide.2 HPa.out).mono ?_⟩
  rintro e W2 ⟨rfl, hb2⟩
  have hJ1 := HJ.out [] W W2 h0 hb2
  obtain ⟨fn, tmps, assign, body, hy, hRd⟩ := HY.out [] u W2 hJ1 ⟨rfl, rfl⟩
  skip
  have HR := Lib.hid hRd
  clear hRd hJ1 hb2 hex h0
  gi_wp2_with fail
  refine ⟨fun h => (by simp [Fence.wide] at h), HR.out.mono ?_⟩
  rintro e W3 (⟨rfl, hJ2, -⟩ | ⟨rfl, hJx2⟩)
  · have HJ2 := Lib.hid hJ2
    clear hJ2 hy
    gi_wp2_with fail
    rw [roundsIn_succ]
    gi_wp2
    refine bodyPost_end (results_none rfl _ _ _) rfl ?_
    exact ⟨⟨_, rfl⟩, .inl ⟨[u], rfl, HJ2.out⟩⟩
  · clear hy
    gi_wp2
    refine bodyPost_ret (results_none rfl _ _ _) rfl ?_
    exact ⟨⟨_, rfl⟩, .inr ⟨[u], trivial, hJx2⟩⟩
end Go.Proofs.YtjfggodnfoknfaaGreatDoor

