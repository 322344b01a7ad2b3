/- The library functions that the checker calls, as the shelf knows them: the numbers read off.
   A text's parts between bytes: the library's words and the reference's, one function. No program in sight.
   Contracts of the references' order, added and taken.
   Contracts of the references' added and taken of decimal digits.
   Contract of the references' taken of decimal digits.
   Contracts of the references' text, Minus, Turned.
   Contracts of the references' Minus, Turned, Plus, Less, Times, Order on decimal texts.
   Contracts of the references' Less, Times, Order, Of on decimal texts. -/
import Derived.Test.YtgcnijmmjlfabaaGreatDoorK06
import Derived.Lib.IndexLaws
import Derived.Lib.SplitLaws
import Derived.Shelf.Strconv.AtoiAll
import Derived.Shelf.Strings.Cut
import Derived.Shelf.Strings.LastIndex
import Derived.Shelf.Strings.SlTrimAscii
import Derived.Shelf.Strings.Split
set_option maxRecDepth 100000
set_option maxHeartbeats 16000000
namespace Go.Proofs.YtgcnijmmjlfabaaGreatDoor
open Go.RowKit Go.Shelf

def laySplit_ren : Go.Shelf.Ren := ⟨fun | 146 => 42 | 221 => 62 | 268 => 104 | 138 => 105 | 143 => 106 | 195 => 139 | 197 => 140 | 218 => 141 | 219 => 97 | 260 => 164 | 217 => 132 | 225 => 133 | 224 => 134 | 267 => 135 | 266 => 160 | 314 => 161 | n => n, fun | 9 => 9 | 31 => 36 | 3 => 3 | 4 => 4 | 0 => 0 | 105 => 173 | 21 => 21 | 5 => 5 | 46 => 169 | 119 => 200 | 139 => 203 | 138 => 202 | 146 => 136 | 51 => 135 | n => n, fun | 1 => 0 | 3 => 3 | 4 => 4 | n => n⟩
theorem laySplit : Go.Proofs.Lays.n146 Tryz.prog laySplit_ren := {
  mixed := by kernel_rfl
  f138 := Tryz.func105.trans (congrArg some (by kernel_rfl))
  f143 := Tryz.func106.trans (congrArg some (by kernel_rfl))
  f146 := Tryz.func42.trans (congrArg some (by kernel_rfl))
  f195 := Tryz.func139.trans (congrArg some (by kernel_rfl))
  f197 := Tryz.func140.trans (congrArg some (by kernel_rfl))
  f217 := Tryz.func132.trans (congrArg some (by kernel_rfl))
  f218 := Tryz.func141.trans (congrArg some (by kernel_rfl))
  f219 := Tryz.func97.trans (congrArg some (by kernel_rfl))
  f221 := Tryz.func62.trans (congrArg some (by kernel_rfl))
  f224 := Tryz.func134.trans (congrArg some (by kernel_rfl))
  f225 := Tryz.func133.trans (congrArg some (by kernel_rfl))
  f260 := Tryz.func164.trans (congrArg some (by kernel_rfl))
  f266 := Tryz.func160.trans (congrArg some (by kernel_rfl))
  f267 := Tryz.func135.trans (congrArg some (by kernel_rfl))
  f268 := Tryz.func104.trans (congrArg some (by kernel_rfl))
  f314 := Tryz.func161.trans (congrArg some (by kernel_rfl))
  t0 := Tryz.underlying0
  a0 := Tryz.isAgg0
  z0 := Tryz.sizeOf0
  v0 := Tryz.zeroValue0
  t3 := Tryz.underlying3
  a3 := Tryz.isAgg3
  z3 := Tryz.sizeOf3
  v3 := Tryz.zeroValue3
  t4 := Tryz.underlying4
  a4 := Tryz.isAgg4
  z4 := Tryz.sizeOf4
  v4 := Tryz.zeroValue4
  t5 := Tryz.underlying5
  a5 := Tryz.isAgg5
  z5 := Tryz.sizeOf5
  v5 := Tryz.zeroValue5
  t9 := Tryz.underlying9
  a9 := Tryz.isAgg9
  z9 := Tryz.sizeOf9
  v9 := Tryz.zeroValue9
  t21 := Tryz.underlying21
  a21 := Tryz.isAgg21
  z21 := Tryz.sizeOf21
  v21 := Tryz.zeroValue21
  t31 := Tryz.underlying36
  a31 := Tryz.isAgg36
  z31 := Tryz.sizeOf36
  v31 := Tryz.zeroValue36
  t46 := Tryz.underlying169
  a46 := Tryz.isAgg169
  z46 := Tryz.sizeOf169
  v46 := Tryz.zeroValue169
  t51 := Tryz.underlying135
  a51 := Tryz.isAgg135
  z51 := Tryz.sizeOf135
  v51 := Tryz.zeroValue135
  t105 := Tryz.underlying173
  a105 := Tryz.isAgg173
  z105 := Tryz.sizeOf173
  v105 := Tryz.zeroValue173
  t119 := Tryz.underlying200
  a119 := Tryz.isAgg200
  z119 := Tryz.sizeOf200
  t138 := Tryz.underlying202
  a138 := Tryz.isAgg202
  z138 := Tryz.sizeOf202
  v138 := Tryz.zeroValue202
  t139 := Tryz.underlying203
  a139 := Tryz.isAgg203
  z139 := Tryz.sizeOf203
  v139 := Tryz.zeroValue203
  t146 := Tryz.underlying136
  a146 := Tryz.isAgg136
  z146 := Tryz.sizeOf136
  v146 := Tryz.zeroValue136
  g1 := by kernel_rfl
  g3 := by kernel_rfl
  g4 := by kernel_rfl }
def layTrim_ren : Go.Shelf.Ren := ⟨fun | 160 => 118 | 232 => 147 | 231 => 146 | 227 => 148 | 234 => 150 | 233 => 149 | 236 => 152 | 235 => 151 | 228 => 166 | 271 => 168 | 151 => 167 | 197 => 140 | 120 => 176 | 152 => 175 | 260 => 164 | 137 => 183 | 119 => 184 | 224 => 134 | 225 => 133 | 217 => 132 | 266 => 160 | n => n, fun | 9 => 9 | 4 => 4 | 3 => 3 | 5 => 5 | 117 => 179 | 116 => 178 | 0 => 0 | 124 => 182 | 21 => 21 | 105 => 173 | 46 => 169 | 119 => 200 | 139 => 203 | 138 => 202 | n => n, fun | 3 => 3 | 4 => 4 | n => n⟩
theorem layTrim : Go.Proofs.Lays.n160 Tryz.prog layTrim_ren := {
  mixed := by kernel_rfl
  f119 := Tryz.func184.trans (congrArg some (by kernel_rfl))
  f120 := Tryz.func176.trans (congrArg some (by kernel_rfl))
  f137 := Tryz.func183.trans (congrArg some (by kernel_rfl))
  f151 := Tryz.func167.trans (congrArg some (by kernel_rfl))
  f152 := Tryz.func175.trans (congrArg some (by kernel_rfl))
  f160 := Tryz.func118.trans (congrArg some (by kernel_rfl))
  f197 := Tryz.func140.trans (congrArg some (by kernel_rfl))
  f217 := Tryz.func132.trans (congrArg some (by kernel_rfl))
  f224 := Tryz.func134.trans (congrArg some (by kernel_rfl))
  f225 := Tryz.func133.trans (congrArg some (by kernel_rfl))
  f227 := Tryz.func148.trans (congrArg some (by kernel_rfl))
  f228 := Tryz.func166.trans (congrArg some (by kernel_rfl))
  f231 := Tryz.func146.trans (congrArg some (by kernel_rfl))
  f232 := Tryz.func147.trans (congrArg some (by kernel_rfl))
  f233 := Tryz.func149.trans (congrArg some (by kernel_rfl))
  f234 := Tryz.func150.trans (congrArg some (by kernel_rfl))
  f235 := Tryz.func151.trans (congrArg some (by kernel_rfl))
  f236 := Tryz.func152.trans (congrArg some (by kernel_rfl))
  f260 := Tryz.func164.trans (congrArg some (by kernel_rfl))
  f266 := Tryz.func160.trans (congrArg some (by kernel_rfl))
  f271 := Tryz.func168.trans (congrArg some (by kernel_rfl))
  t0 := Tryz.underlying0
  a0 := Tryz.isAgg0
  z0 := Tryz.sizeOf0
  v0 := Tryz.zeroValue0
  t3 := Tryz.underlying3
  a3 := Tryz.isAgg3
  z3 := Tryz.sizeOf3
  v3 := Tryz.zeroValue3
  t4 := Tryz.underlying4
  a4 := Tryz.isAgg4
  z4 := Tryz.sizeOf4
  v4 := Tryz.zeroValue4
  t5 := Tryz.underlying5
  a5 := Tryz.isAgg5
  z5 := Tryz.sizeOf5
  v5 := Tryz.zeroValue5
  t9 := Tryz.underlying9
  a9 := Tryz.isAgg9
  z9 := Tryz.sizeOf9
  v9 := Tryz.zeroValue9
  t21 := Tryz.underlying21
  a21 := Tryz.isAgg21
  z21 := Tryz.sizeOf21
  v21 := Tryz.zeroValue21
  t46 := Tryz.underlying169
  a46 := Tryz.isAgg169
  z46 := Tryz.sizeOf169
  v46 := Tryz.zeroValue169
  t105 := Tryz.underlying173
  a105 := Tryz.isAgg173
  z105 := Tryz.sizeOf173
  v105 := Tryz.zeroValue173
  t116 := Tryz.underlying178
  a116 := Tryz.isAgg178
  z116 := Tryz.sizeOf178
  t117 := Tryz.underlying179
  a117 := Tryz.isAgg179
  z117 := Tryz.sizeOf179
  v117 := Tryz.zeroValue179
  t119 := Tryz.underlying200
  a119 := Tryz.isAgg200
  z119 := Tryz.sizeOf200
  t124 := Tryz.underlying182
  a124 := Tryz.isAgg182
  z124 := Tryz.sizeOf182
  v124 := Tryz.zeroValue182
  t138 := Tryz.underlying202
  a138 := Tryz.isAgg202
  z138 := Tryz.sizeOf202
  v138 := Tryz.zeroValue202
  t139 := Tryz.underlying203
  a139 := Tryz.isAgg203
  z139 := Tryz.sizeOf203
  v139 := Tryz.zeroValue203
  g3 := by kernel_rfl
  g4 := by kernel_rfl }
def layAtoi_ren : Go.Shelf.Ren := ⟨fun | 172 => 80 | 244 => 119 | 245 => 120 | 247 => 153 | 279 => 154 | 280 => 155 | 281 => 156 | 282 => 157 | 287 => 169 | 316 => 170 | 171 => 172 | 205 => 171 | 321 => 177 | 322 => 178 | 243 => 179 | 246 => 185 | 283 => 187 | 284 => 188 | 285 => 189 | 286 => 190 | 129 => 192 | 317 => 191 | 318 => 193 | 319 => 194 | 320 => 195 | 337 => 196 | 338 => 197 | n => n, fun | 9 => 9 | 3 => 3 | 75 => 113 | 76 => 114 | 4 => 4 | 5 => 5 | 167 => 183 | 37 => 132 | 0 => 0 | 85 => 184 | 2 => 2 | 168 => 186 | 53 => 193 | 175 => 194 | 46 => 169 | 210 => 197 | 127 => 206 | 145 => 209 | 143 => 207 | 21 => 21 | 171 => 213 | 173 => 216 | 212 => 219 | 51 => 135 | 20 => 20 | 213 => 220 | 232 => 223 | 233 => 224 | 80 => 225 | n => n, fun | 15 => 1 | 16 => 2 | 17 => 5 | 18 => 6 | 19 => 7 | n => n⟩
theorem layAtoi : Go.Proofs.LaysC.n172 Tryz.prog layAtoi_ren := {
  mixed := by kernel_rfl
  f129 := Tryz.func192.trans (congrArg some (by kernel_rfl))
  f171 := Tryz.func172.trans (congrArg some (by kernel_rfl))
  f172 := Tryz.func80.trans (congrArg some (by kernel_rfl))
  f205 := Tryz.func171.trans (congrArg some (by kernel_rfl))
  f243 := Tryz.func179.trans (congrArg some (by kernel_rfl))
  f244 := Tryz.func119.trans (congrArg some (by kernel_rfl))
  f245 := Tryz.func120.trans (congrArg some (by kernel_rfl))
  f246 := Tryz.func185.trans (congrArg some (by kernel_rfl))
  f247 := Tryz.func153.trans (congrArg some (by kernel_rfl))
  f279 := Tryz.func154.trans (congrArg some (by kernel_rfl))
  f280 := Tryz.func155.trans (congrArg some (by kernel_rfl))
  f281 := Tryz.func156.trans (congrArg some (by kernel_rfl))
  f282 := Tryz.func157.trans (congrArg some (by kernel_rfl))
  f283 := Tryz.func187.trans (congrArg some (by kernel_rfl))
  f284 := Tryz.func188.trans (congrArg some (by kernel_rfl))
  f285 := Tryz.func189.trans (congrArg some (by kernel_rfl))
  f286 := Tryz.func190.trans (congrArg some (by kernel_rfl))
  f287 := Tryz.func169.trans (congrArg some (by kernel_rfl))
  f316 := Tryz.func170.trans (congrArg some (by kernel_rfl))
  f317 := Tryz.func191.trans (congrArg some (by kernel_rfl))
  f318 := Tryz.func193.trans (congrArg some (by kernel_rfl))
  f319 := Tryz.func194.trans (congrArg some (by kernel_rfl))
  f320 := Tryz.func195.trans (congrArg some (by kernel_rfl))
  f321 := Tryz.func177.trans (congrArg some (by kernel_rfl))
  f322 := Tryz.func178.trans (congrArg some (by kernel_rfl))
  f337 := Tryz.func196.trans (congrArg some (by kernel_rfl))
  f338 := Tryz.func197.trans (congrArg some (by kernel_rfl))
  t0 := Tryz.underlying0
  a0 := Tryz.isAgg0
  z0 := Tryz.sizeOf0
  v0 := Tryz.zeroValue0
  t2 := Tryz.underlying2
  a2 := Tryz.isAgg2
  z2 := Tryz.sizeOf2
  v2 := Tryz.zeroValue2
  t3 := Tryz.underlying3
  a3 := Tryz.isAgg3
  z3 := Tryz.sizeOf3
  v3 := Tryz.zeroValue3
  t4 := Tryz.underlying4
  a4 := Tryz.isAgg4
  z4 := Tryz.sizeOf4
  v4 := Tryz.zeroValue4
  t5 := Tryz.underlying5
  a5 := Tryz.isAgg5
  z5 := Tryz.sizeOf5
  v5 := Tryz.zeroValue5
  t9 := Tryz.underlying9
  a9 := Tryz.isAgg9
  z9 := Tryz.sizeOf9
  v9 := Tryz.zeroValue9
  t20 := Tryz.underlying20
  a20 := Tryz.isAgg20
  z20 := Tryz.sizeOf20
  v20 := Tryz.zeroValue20
  t21 := Tryz.underlying21
  a21 := Tryz.isAgg21
  z21 := Tryz.sizeOf21
  v21 := Tryz.zeroValue21
  t37 := Tryz.underlying132
  a37 := Tryz.isAgg132
  z37 := Tryz.sizeOf132
  v37 := Tryz.zeroValue132
  t46 := Tryz.underlying169
  a46 := Tryz.isAgg169
  z46 := Tryz.sizeOf169
  v46 := Tryz.zeroValue169
  t51 := Tryz.underlying135
  a51 := Tryz.isAgg135
  z51 := Tryz.sizeOf135
  v51 := Tryz.zeroValue135
  t53 := Tryz.underlying193
  a53 := Tryz.isAgg193
  z53 := Tryz.sizeOf193
  v53 := Tryz.zeroValue193
  t75 := Tryz.underlying113
  a75 := Tryz.isAgg113
  z75 := Tryz.sizeOf113
  v75 := Tryz.zeroValue113
  t76 := Tryz.underlying114
  a76 := Tryz.isAgg114
  z76 := Tryz.sizeOf114
  v76 := Tryz.zeroValue114
  t85 := Tryz.underlying184
  a85 := Tryz.isAgg184
  z85 := Tryz.sizeOf184
  v85 := Tryz.zeroValue184
  t127 := Tryz.underlying206
  a127 := Tryz.isAgg206
  z127 := Tryz.sizeOf206
  v127 := Tryz.zeroValue206
  t143 := Tryz.underlying207
  a143 := Tryz.isAgg207
  z143 := Tryz.sizeOf207
  v143 := Tryz.zeroValue207
  t145 := Tryz.underlying209
  a145 := Tryz.isAgg209
  z145 := Tryz.sizeOf209
  v145 := Tryz.zeroValue209
  t167 := Tryz.underlying183
  a167 := Tryz.isAgg183
  z167 := Tryz.sizeOf183
  v167 := Tryz.zeroValue183
  t168 := Tryz.underlying186
  a168 := Tryz.isAgg186
  z168 := Tryz.sizeOf186
  v168 := Tryz.zeroValue186
  t171 := Tryz.underlying213
  a171 := Tryz.isAgg213
  z171 := Tryz.sizeOf213
  v171 := Tryz.zeroValue213
  t173 := Tryz.underlying216
  a173 := Tryz.isAgg216
  z173 := Tryz.sizeOf216
  v173 := Tryz.zeroValue216
  t175 := Tryz.underlying194
  a175 := Tryz.isAgg194
  z175 := Tryz.sizeOf194
  v175 := Tryz.zeroValue194
  t210 := Tryz.underlying197
  a210 := Tryz.isAgg197
  z210 := Tryz.sizeOf197
  v210 := Tryz.zeroValue197
  t212 := Tryz.underlying219
  a212 := Tryz.isAgg219
  z212 := Tryz.sizeOf219
  v212 := Tryz.zeroValue219
  t213 := Tryz.underlying220
  a213 := Tryz.isAgg220
  z213 := Tryz.sizeOf220
  t232 := Tryz.underlying223
  a232 := Tryz.isAgg223
  z232 := Tryz.sizeOf223
  v232 := Tryz.zeroValue223
  t233 := Tryz.underlying224
  a233 := Tryz.isAgg224
  z233 := Tryz.sizeOf224
  v233 := Tryz.zeroValue224
  g15 := by kernel_rfl
  g16 := by kernel_rfl
  g17 := by kernel_rfl
  g18 := by kernel_rfl
  g19 := by kernel_rfl
  t80 := Tryz.underlying225
  a80 := Tryz.isAgg225
  z80 := Tryz.sizeOf225
  v80 := Tryz.zeroValue225
  i0 := by kernel_rfl
  i2 := by kernel_rfl
  i3 := by kernel_rfl
  i4 := by kernel_rfl
  i5 := by kernel_rfl
  i9 := by kernel_rfl
  i20 := by kernel_rfl
  i21 := by kernel_rfl
  i37 := by kernel_rfl
  i46 := by kernel_rfl
  i51 := by kernel_rfl
  i53 := by kernel_rfl
  i75 := by kernel_rfl
  i76 := by kernel_rfl
  i80 := by kernel_rfl
  i85 := by kernel_rfl
  i127 := by kernel_rfl
  i143 := by kernel_rfl
  i145 := by kernel_rfl
  i167 := by kernel_rfl
  i168 := by kernel_rfl
  i171 := by kernel_rfl
  i173 := by kernel_rfl
  i175 := by kernel_rfl
  i210 := by kernel_rfl
  i212 := by kernel_rfl
  i232 := by kernel_rfl
  i233 := by kernel_rfl
  m15 := by kernel_rfl
  m16 := by kernel_rfl
  m17 := by kernel_rfl
  m18 := by kernel_rfl
  m19 := by kernel_rfl
  c0 := by kernel_rfl
  c2 := by kernel_rfl
  c3 := by kernel_rfl
  c4 := by kernel_rfl
  c5 := by kernel_rfl
  c9 := by kernel_rfl
  c20 := by kernel_rfl
  c21 := by kernel_rfl
  c37 := by kernel_rfl
  c46 := by kernel_rfl
  c51 := by kernel_rfl
  c53 := by kernel_rfl
  c75 := by kernel_rfl
  c76 := by kernel_rfl
  c80 := by kernel_rfl
  c85 := by kernel_rfl
  c127 := by kernel_rfl
  c143 := by kernel_rfl
  c145 := by kernel_rfl
  c167 := by kernel_rfl
  c168 := by kernel_rfl
  c171 := by kernel_rfl
  c173 := by kernel_rfl
  c175 := by kernel_rfl
  c210 := by kernel_rfl
  c212 := by kernel_rfl
  c213 := by kernel_rfl
  c232 := by kernel_rfl
  c233 := by kernel_rfl }
def layLastIndex_ren : Go.Shelf.Ren := ⟨fun | 148 => 33 | 222 => 55 | 223 => 56 | 269 => 100 | n => n, fun | 9 => 9 | 3 => 3 | 4 => 4 | 5 => 5 | 146 => 136 | 51 => 135 | 46 => 169 | n => n, fun | n => n⟩
theorem layLastIndex : Go.Proofs.Lays.n148 Tryz.prog layLastIndex_ren := {
  mixed := by kernel_rfl
  f148 := Tryz.func33.trans (congrArg some (by kernel_rfl))
  f222 := Tryz.func55.trans (congrArg some (by kernel_rfl))
  f223 := Tryz.func56.trans (congrArg some (by kernel_rfl))
  f269 := Tryz.func100.trans (congrArg some (by kernel_rfl))
  t3 := Tryz.underlying3
  a3 := Tryz.isAgg3
  z3 := Tryz.sizeOf3
  v3 := Tryz.zeroValue3
  t4 := Tryz.underlying4
  a4 := Tryz.isAgg4
  z4 := Tryz.sizeOf4
  v4 := Tryz.zeroValue4
  t5 := Tryz.underlying5
  a5 := Tryz.isAgg5
  z5 := Tryz.sizeOf5
  v5 := Tryz.zeroValue5
  t9 := Tryz.underlying9
  a9 := Tryz.isAgg9
  z9 := Tryz.sizeOf9
  v9 := Tryz.zeroValue9
  t46 := Tryz.underlying169
  a46 := Tryz.isAgg169
  z46 := Tryz.sizeOf169
  v46 := Tryz.zeroValue169
  t51 := Tryz.underlying135
  a51 := Tryz.isAgg135
  z51 := Tryz.sizeOf135
  v51 := Tryz.zeroValue135
  t146 := Tryz.underlying136
  a146 := Tryz.isAgg136
  z146 := Tryz.sizeOf136
  v146 := Tryz.zeroValue136 }
def layCut_ren : Go.Shelf.Ren := ⟨fun | 145 => 27 | 220 => 52 | 219 => 97 | 217 => 132 | 225 => 133 | 224 => 134 | 267 => 135 | 266 => 160 | 314 => 161 | n => n, fun | 9 => 9 | 4 => 4 | 59 => 57 | 3 => 3 | 5 => 5 | 46 => 169 | 146 => 136 | 51 => 135 | n => n, fun | 1 => 0 | n => n⟩
theorem layCut : Go.Proofs.Lays.n145 Tryz.prog layCut_ren := {
  mixed := by kernel_rfl
  f145 := Tryz.func27.trans (congrArg some (by kernel_rfl))
  f217 := Tryz.func132.trans (congrArg some (by kernel_rfl))
  f219 := Tryz.func97.trans (congrArg some (by kernel_rfl))
  f220 := Tryz.func52.trans (congrArg some (by kernel_rfl))
  f224 := Tryz.func134.trans (congrArg some (by kernel_rfl))
  f225 := Tryz.func133.trans (congrArg some (by kernel_rfl))
  f266 := Tryz.func160.trans (congrArg some (by kernel_rfl))
  f267 := Tryz.func135.trans (congrArg some (by kernel_rfl))
  f314 := Tryz.func161.trans (congrArg some (by kernel_rfl))
  t3 := Tryz.underlying3
  a3 := Tryz.isAgg3
  z3 := Tryz.sizeOf3
  v3 := Tryz.zeroValue3
  t4 := Tryz.underlying4
  a4 := Tryz.isAgg4
  z4 := Tryz.sizeOf4
  v4 := Tryz.zeroValue4
  t5 := Tryz.underlying5
  a5 := Tryz.isAgg5
  z5 := Tryz.sizeOf5
  v5 := Tryz.zeroValue5
  t9 := Tryz.underlying9
  a9 := Tryz.isAgg9
  z9 := Tryz.sizeOf9
  v9 := Tryz.zeroValue9
  t46 := Tryz.underlying169
  a46 := Tryz.isAgg169
  z46 := Tryz.sizeOf169
  v46 := Tryz.zeroValue169
  t51 := Tryz.underlying135
  a51 := Tryz.isAgg135
  z51 := Tryz.sizeOf135
  v51 := Tryz.zeroValue135
  t59 := Tryz.underlying57
  a59 := Tryz.isAgg57
  z59 := Tryz.sizeOf57
  v59 := Tryz.zeroValue57
  t146 := Tryz.underlying136
  a146 := Tryz.isAgg136
  z146 := Tryz.sizeOf136
  v146 := Tryz.zeroValue136
  g1 := by kernel_rfl }
end Go.Proofs.YtgcnijmmjlfabaaGreatDoor

namespace Go.Proofs.YtgcnijmmjlfabaaGreatDoor

def consH (x : UInt8) : List (List UInt8) → List (List UInt8)
  | [] => [[x]]
  | h :: t => (x :: h) :: t
/-- The parts of a text between the bytes c. -/
def splitL (c : UInt8) : List UInt8 → List (List UInt8)
  | [] => [[]]
  | x :: r => if x = c then [] :: splitL c r else consH x (splitL c r)
theorem splitL_ne (c : UInt8) (l : List UInt8) : splitL c l ≠ [] := by
  cases l with
  | nil => simp [splitL]
  | cons x r =>
    rw [splitL]
    split
    · simp
    · cases splitL c r <;> simp [consH]
theorem index_one_cons (b c : UInt8) (l : List UInt8) (h : b ≠ c) : Go.Lib.index (b :: l) [c] = if Go.Lib.index l [c] == -1 then -1 else Go.Lib.index l [c] + 1 := by
  rw [Go.Lib.index]
  have : [c].isPrefixOf (b :: l) = false := by
    simp only [List.isPrefixOf, Bool.and_true, beq_eq_false_iff_ne, ne_eq]
    exact fun e => h e.symm
  rw [this]; simp
theorem index_one_eq (c : UInt8) (l : List UInt8) : Go.Lib.index (c :: l) [c] = 0 := by
  rw [Go.Lib.index]; simp [List.isPrefixOf]
theorem count_pos_index (c : UInt8) (l : List UInt8) {k : Nat} (h : Go.Lib.count l [c] = k + 1) : ∃ i : Nat, Go.Lib.index l [c] = i := by
  have h1 := Go.Lib.index_ge l [c]
  by_cases e : Go.Lib.index l [c] = -1
  · rw [Go.Lib.count_miss e] at h; omega
  · exact ⟨(Go.Lib.index l [c]).toNat, by omega⟩
theorem splitK_one (c : UInt8) : ∀ l : List UInt8, Go.Lib.splitK [c] 0 (Go.Lib.count l [c]) l = splitL c l
  | [] => by
    have : Go.Lib.count [] [c] = 0 := Go.Lib.count_miss (by simp [Go.Lib.index])
    rw [this]; rfl
  | x :: r => by
    have ih := splitK_one c r
    by_cases hx : x = c
    · subst hx
      rw [Go.Lib.count_cons_eq, Nat.add_comm, Go.Lib.splitK, index_one_eq, splitL, if_pos rfl, ← ih]
      simp
    · rw [Go.Lib.count_cons_ne x c r hx, splitL, if_neg hx, ← ih]
      cases hk : Go.Lib.count r [c] with
      | zero => rfl
      | succ k =>
        obtain ⟨i, hi⟩ := count_pos_index c r hk
        have e1 : (Go.Lib.index r [c] == -1) = false := by rw [beq_eq_false_iff_ne]; omega
        have e2 : (Go.Lib.index (x :: r) [c] == -1) = false := by
          rw [index_one_cons x c r hx, e1, beq_eq_false_iff_ne]; simp; omega
        have e3 : Go.Lib.index (x :: r) [c] = i + 1 := by rw [index_one_cons x c r hx, e1]; simp [hi]
        rw [Go.Lib.splitK, Go.Lib.splitK, e1, e2, e3, hi]
        simp only [Bool.false_eq_true, if_false]
        have t1 : ((i : Int) + 1).toNat = i + 1 := by omega
        have t2 : (i : Int).toNat = i := by omega
        rw [t1, t2, consH]
        simp [Nat.add_assoc]

/-- A byte more at the end of the last part. -/
def addLast (l : List (List UInt8)) (x : UInt8) : List (List UInt8) := l.set (l.length - 1) (l.getD (l.length - 1) [] ++ [x])
theorem addLast_cons (h : List UInt8) {t : List (List UInt8)} (ht : t ≠ []) (x : UInt8) : addLast (h :: t) x = h :: addLast t x := by
  cases t with
  | nil => exact absurd rfl ht
  | cons a s => simp [addLast]
theorem splitL_snoc (c x : UInt8) : ∀ l : List UInt8, splitL c (l ++ [x]) = if x = c then splitL c l ++ [[]] else addLast (splitL c l) x
  | [] => by
    by_cases hx : x = c
    · simp [splitL, hx]
    · simp [splitL, hx, consH, addLast]
  | y :: r => by
    have ih := splitL_snoc c x r
    have hne := splitL_ne c r
    rw [List.cons_append, splitL, splitL, ih]
    by_cases hy : y = c
    · rw [if_pos hy, if_pos hy]
      by_cases hx : x = c
      · rw [if_pos hx, if_pos hx]; rfl
      · rw [if_neg hx, if_neg hx, addLast_cons [] hne]
    · rw [if_neg hy, if_neg hy]
      generalize splitL c r = L at *
      cases L with
      | nil => exact absurd rfl hne
      | cons h t =>
        by_cases hx : x = c
        · rw [if_pos hx, if_pos hx]; rfl
        · rw [if_neg hx, if_neg hx]
          cases t with
          | nil => simp [addLast, consH]
          | cons a s =>
            have e1 := addLast_cons h (t := a :: s) (by simp) x
            have e2 := addLast_cons (y :: h) (t := a :: s) (by simp) x
            rw [e1]
            show (y :: h) :: addLast (a :: s) x = addLast ((y :: h) :: a :: s) x
            rw [e2]
theorem splitL_take {c : UInt8} {l : List UInt8} {i : Nat} {x : UInt8} (h : l[i]? = some x) : splitL c (l.take (i + 1)) = if x = c then splitL c (l.take i) ++ [[]] else addLast (splitL c (l.take i)) x := by
  rw [← splitL_snoc, List.take_add_one, h]; rfl
theorem splitL_length (c : UInt8) : ∀ l : List UInt8, (splitL c l).length ≤ l.length + 1
  | [] => by simp [splitL]
  | y :: r => by
    have ih := splitL_length c r
    rw [splitL]
    split
    · simp; omega
    · have hne := splitL_ne c r
      generalize splitL c r = L at *
      cases L with
      | nil => exact absurd rfl hne
      | cons h t => simp [consH] at ih ⊢; omega
theorem splitL_part (c : UInt8) : ∀ (l p : List UInt8), p ∈ splitL c l → p.length ≤ l.length
  | [], p, h => by simp [splitL] at h; simp [h]
  | y :: r, p, h => by
    have ih := splitL_part c r
    have hne := splitL_ne c r
    rw [splitL] at h
    split at h
    · rcases List.mem_cons.1 h with h | h
      · simp [h]
      · have := ih p h; simp; omega
    · generalize splitL c r = L at *
      cases L with
      | nil => exact absurd rfl hne
      | cons a t =>
        simp only [consH] at h
        rcases List.mem_cons.1 h with h | h
        · have := ih a (List.mem_cons_self ..); simp [h]; omega
        · have := ih p (List.mem_cons_of_mem _ h); simp; omega
end Go.Proofs.YtgcnijmmjlfabaaGreatDoor

namespace Go.Proofs.YtgcnijmmjlfabaaGreatDoor
open Go.RowKit Go.Shelf

theorem sgn_lt {a b : Int} (h : a < b) : cmpI a b = -1 := by unfold cmpI; rw [if_pos h]
theorem sgn_gt {a b : Int} (h : b < a) : cmpI a b = 1 := by unfold cmpI; rw [if_neg (by omega), if_pos h]
theorem sgn_eq {a b : Int} (h : a = b) : cmpI a b = 0 := by unfold cmpI; rw [if_neg (by omega), if_neg (by omega)]
theorem drop_eq_at {a b : List Int} {j : Nat} {x : Int} (ha : a[j]? = some x) (hb : b[j]? = some x) (h : a.drop (j + 1) = b.drop (j + 1)) : a.drop j = b.drop j := by
  obtain ⟨h1, e1⟩ := List.getElem?_eq_some_iff.1 ha
  obtain ⟨h2, e2⟩ := List.getElem?_eq_some_iff.1 hb
  rw [List.drop_eq_getElem_cons h1, List.drop_eq_getElem_cons h2, e1, e2, h]
theorem getD_of {a : List Int} {j : Nat} {x : Int} (h : a[j]? = some x) : a.getD j 0 = x := by rw [List.getD_eq_getElem?_getD, h]; rfl
theorem dOrder_any (va vb : Value) (a b : List Int) (w : World) (ha : RI w va a) (hb : RI w vb b) (hda : Dig a) (hdb : Dig b) (hca : Can a) (hcb : Can b) :
    Calls Tryz.prog 181 #[va, vb] w fun e w' => e = .returned (.int .i64 (cmpI (dval a) (dval b))) ∧ Below w.heap.size w w' := by
  obtain ⟨A, c, rfl, hlc, hlb, hcell⟩ := ha.open_
  obtain ⟨A', c', rfl, hlc', hlb', hcell'⟩ := hb.open_
  by_cases hl1 : a.length < b.length
  · have hr := sgn_lt (len_lt hda hdb hcb hl1)
    have HR := Lib.hid hr
    clear hcell hcell' ha hb hda hdb hca hcb hr
    go_enter Tryz.func181, Tryz.ntmps181
    go_wp2
    go_ret
    exact ⟨ret_i HR.out.symm, Below.refl _ _⟩
  by_cases hl2 : b.length < a.length
  · have hr := sgn_gt (len_lt hdb hda hca hl2)
    have HR := Lib.hid hr
    clear hcell hcell' ha hb hda hdb hca hcb hr
    go_enter Tryz.func181, Tryz.ntmps181
    go_wp2
    go_ret
    exact ⟨ret_i HR.out.symm, Below.refl _ _⟩
  have HLen : Hid (a.length = b.length) := by show _ = _; omega
  have HA := Lib.hid hcell
  have HB := Lib.hid hcell'
  have HDa := Lib.hid hda
  have HDb := Lib.hid hdb
  rw [show b.length = a.length by omega]
  clear hcell hcell' ha hb hda hdb hca hcb hl1 hl2 hlb' hlc'
  go_enter Tryz.func181, Tryz.ntmps181
  go_wp2_with fail
  go_loopw [5] (fun i wr => ∃ k : Nat, k ≤ a.length ∧ i = .int .i64 ((k : Int) - 1) ∧ Hid (a.drop k = b.drop k) ∧ Hid (Below w.heap.size w wr)) (fun i _ => (intOf i + 1).toNat)
  case atStart => exact ⟨a.length, Nat.le_refl _, rfl, by show _ = _; rw [List.drop_of_length_le (Nat.le_refl _), List.drop_of_length_le (by have := HLen.out; omega)], Below.refl _ _⟩
  case round =>
    obtain ⟨k, hk, rfl, hE, hbw⟩ := hrel
    by_cases hk0 : k = 0
    · subst hk0
      have HR : Hid (cmpI (dval a) (dval b) = 0) := sgn_eq (by have := hE.out; simp only [List.drop_zero] at this; rw [this])
      go_wp2
      go_ret
      exact ⟨ret_i HR.out.symm, hbw.out⟩
    · obtain ⟨j, rfl⟩ : ∃ j, k = j + 1 := ⟨k - 1, by omega⟩
      obtain ⟨ad, z, rfl, hab, hz, hcl⟩ := HA.out j (by omega)
      obtain ⟨ad', z', rfl, hab', hz', hcl'⟩ := HB.out j (by have := HLen.out; omega)
      have hcw := (hbw.out.cell (by rw [block_of_add]; exact hab)).trans hcl
      have hcw' := (hbw.out.cell (by rw [block_of_add]; exact hab')).trans hcl'
      have hjj : (((j + 1 : Nat) : Int) - 1) = (j : Int) := by omega
      rw [hjj]
      clear HA HB hcl hcl' hjj
      by_cases c1 : z < z'
      · have HR : Hid (cmpI (dval a) (dval b) = -1) := sgn_lt (ord_lt HDa.out HDb.out HLen.out (by omega) hE.out (by rw [getD_of hz.out, getD_of hz'.out]; exact c1))
        go_wp2_with fail
        go_quiet (fail)
        go_wp2_with fail
        go_quiet (fail)
        go_wp2
        go_ret
        refine ⟨ret_i HR.out.symm, ?_⟩
        repeat (first | exact hbw.out | apply below_drewN | apply Below.drew)
      · by_cases c2 : z' < z
        · have HR : Hid (cmpI (dval a) (dval b) = 1) := sgn_gt (ord_lt HDb.out HDa.out HLen.out.symm (by have := HLen.out; omega) hE.out.symm (by rw [getD_of hz.out, getD_of hz'.out]; exact c2))
          go_wp2_with fail
          go_quiet (fail)
          go_wp2_with fail
          go_quiet (fail)
          go_wp2
          go_ret
          refine ⟨ret_i HR.out.symm, ?_⟩
          repeat (first | exact hbw.out | apply below_drewN | apply Below.drew)
        · obtain rfl : z' = z := by omega
          have HE2 : Hid (a.drop j = b.drop j) := drop_eq_at hz.out hz'.out hE.out
          go_wp2_with fail
          go_quiet (fail)
          go_wp2
          go_roundw
          case rel =>
            refine ⟨j, by omega, by go_num, HE2.out, ?_⟩
            show Below _ _ _
            repeat (first | exact hbw.out | apply below_drewN | apply Below.drew)
          case measure => simp [intOf] <;> omega
end Go.Proofs.YtgcnijmmjlfabaaGreatDoor

namespace Go.Proofs.YtgcnijmmjlfabaaGreatDoor
open Go.RowKit Go.Shelf

theorem getD_end (l : List Int) {k : Nat} (h : l.length ≤ k) : l.getD k 0 = 0 := by rw [List.getD_eq_getElem?_getD, List.getElem?_eq_none h]; rfl
theorem getD_snoc_last (l : List Int) (d : Int) : (l ++ [d]).getD l.length 0 = d := by rw [List.getD_eq_getElem?_getD, List.getElem?_append_right (Nat.le_refl _)]; simp
/-- A round of added. -/
theorem add_step {a b out : List Int} {i : Nat} {c : Int} (hl : out.length = i) (hd : Dig out) (hda : Dig a) (hdb : Dig b) (hc0 : 0 ≤ c) (hc1 : c ≤ 1) (hv : dval out + p10 i * c = dval (a.take i) + dval (b.take i)) :
    (out ++ [(c + (a.getD i 0 + b.getD i 0)) % 10]).length = i + 1 ∧ Dig (out ++ [(c + (a.getD i 0 + b.getD i 0)) % 10]) ∧ 0 ≤ (c + (a.getD i 0 + b.getD i 0)) / 10 ∧ (c + (a.getD i 0 + b.getD i 0)) / 10 ≤ 1 ∧
      dval (out ++ [(c + (a.getD i 0 + b.getD i 0)) % 10]) + p10 (i + 1) * ((c + (a.getD i 0 + b.getD i 0)) / 10) = dval (a.take (i + 1)) + dval (b.take (i + 1)) := by
  have h1 := hda i
  have h2 := hdb i
  rw [dval_snoc, dval_take_succ, dval_take_succ, hl, p10]
  generalize a.getD i 0 = x at *
  generalize b.getD i 0 = y at *
  refine ⟨by simp [hl], hd.snoc (by omega) (by omega), by omega, by omega, ?_⟩
  have e : c + (x + y) = 10 * ((c + (x + y)) / 10) + (c + (x + y)) % 10 := by omega
  generalize (c + (x + y)) / 10 = q at *
  generalize (c + (x + y)) % 10 = r at *
  have e2 : p10 i * (c + (x + y)) = p10 i * (10 * q + r) := by rw [e]
  grind
theorem add_done {a b out : List Int} {i : Nat} (hl : out.length = i) (hd : Dig out) (hda : Dig a) (hdb : Dig b) (hca : Can a) (hcb : Can b) (ha : a.length ≤ i) (hb : b.length ≤ i) (hv : dval out + p10 i * 0 = dval (a.take i) + dval (b.take i))
    (ht : i ≤ a.length ∨ i ≤ b.length ∨ out.getD (i - 1) 0 ≠ 0) : Can out ∧ dval out = dval a + dval b := by
  rw [List.take_of_length_le ha, List.take_of_length_le hb, Int.mul_zero, Int.add_zero] at hv
  refine ⟨?_, hv⟩
  by_cases e : out = []
  · exact .inl e
  have hn : i ≠ 0 := fun h => e (List.eq_nil_of_length_eq_zero (by omega))
  have b1 := dval_bd hda
  have b2 := dval_bd hdb
  rcases ht with h | h | h
  · have := can_ge hda hca (fun h0 => by rw [h0] at h; simp at h; omega)
    exact can_of_ge hd e (by rw [hl, show i - 1 = a.length - 1 by omega]; omega)
  · have := can_ge hdb hcb (fun h0 => by rw [h0] at h; simp at h; omega)
    exact can_of_ge hd e (by rw [hl, show i - 1 = b.length - 1 by omega]; omega)
  · exact .inr (by rw [hl]; exact h)
theorem rem_at {s : Int} (h : 0 ≤ s) : s.tmod 10 = s % 10 := Int.tmod_eq_emod_of_nonneg h
theorem quo_at {s : Int} (h : 0 ≤ s) : s.tdiv 10 = s / 10 := Int.tdiv_eq_ediv_of_nonneg h
end Go.Proofs.YtgcnijmmjlfabaaGreatDoor

namespace Go.Proofs.YtgcnijmmjlfabaaGreatDoor
open Go.RowKit Go.Shelf

/-- A round of taken. -/
theorem tak_step {a b out : List Int} {i : Nat} {c z q : Int} (hl : out.length = i) (hd : Dig out) (hv : dval out - p10 i * c = dval (a.take i) - dval (b.take i)) (hz0 : 0 ≤ z) (hz9 : z ≤ 9) (he : z = a.getD i 0 - b.getD i 0 - c + 10 * q) :
    (out ++ [z]).length = i + 1 ∧ Dig (out ++ [z]) ∧ dval (out ++ [z]) - p10 (i + 1) * q = dval (a.take (i + 1)) - dval (b.take (i + 1)) := by
  refine ⟨by simp [hl], hd.snoc hz0 hz9, ?_⟩
  rw [dval_snoc, dval_take_succ, dval_take_succ, hl, p10, he]
  grind
theorem tak_done {a b out : List Int} {c : Int} (hl : out.length = a.length) (hd : Dig out) (hda : Dig a) (hdb : Dig b) (hcb : Can b) (hle : dval b ≤ dval a) (hc0 : 0 ≤ c) (hc1 : c ≤ 1) (hv : dval out - p10 a.length * c = dval (a.take a.length) - dval (b.take a.length)) : dval out = dval a - dval b := by
  have hlen : b.length ≤ a.length := by
    apply Classical.byContradiction
    intro h
    have := len_lt hda hdb hcb (by omega)
    omega
  rw [List.take_of_length_le (Nat.le_refl _), List.take_of_length_le hlen] at hv
  have := dval_bd hd
  rw [hl] at this
  have : c = 0 := by
    apply Classical.byContradiction
    intro h
    obtain rfl : c = 1 := by omega
    omega
  subst this
  omega
end Go.Proofs.YtgcnijmmjlfabaaGreatDoor

namespace Go.Proofs.YtgcnijmmjlfabaaGreatDoor
open Go.RowKit Go.Shelf

theorem chrs_succ {l : List Int} {i : Nat} {d : Int} (h : l[i]? = some d) : chrs (l.take (i + 1)) = UInt8.ofNat (48 + d).toNat :: chrs (l.take i) := by
  unfold chrs
  rw [List.take_add_one, h]
  simp
end Go.Proofs.YtgcnijmmjlfabaaGreatDoor

namespace Go.Proofs.YtgcnijmmjlfabaaGreatDoor
open Go.RowKit Go.Shelf

theorem zs_text {l : List Int} {m : Bool} (hd : Dig l) (hc : Can l) : ZS (.string ⟨(textL l m).toArray⟩) (sgZ l m) := by
  by_cases e : l = []
  · subst e
    exact ⟨[], false, by simp [textL], hd, hc, fun _ => rfl, by cases m <;> simp [sgZ, dval]⟩
  · exact ⟨l, m, rfl, hd, hc, fun h => absurd h e, rfl⟩
theorem sgz_neg {l : List Int} {m : Bool} (hd : Dig l) (hc : Can l) (hm : l = [] → m = false) : decide (sgZ l m < 0) = m := by
  have := dval_bd hd
  cases m
  · exact decide_eq_false (by unfold sgZ; simp; omega)
  · refine decide_eq_true ?_
    have h1 : dval l ≠ 0 := fun h => by have := hm (can_nil hd hc h); cases this
    unfold sgZ; simp; omega
theorem sgz_not (l : List Int) (m : Bool) : sgZ l (!m) = - sgZ l m := by cases m <;> simp [sgZ]
theorem zMinus_any (l : List Int) (m : Bool) (w : World) (hd : Dig l) (hm : l = [] → m = false) :
    Calls Tryz.prog 138 #[.string ⟨(textL l m).toArray⟩] w fun e w' => e = .returned (.bool m) ∧ w = w' := by
  have hp := text_pos l m
  have hmin := text_minus hd m hm
  generalize textL l m = bs at *
  have hbj : bs[0]? = some (bs.getD 0 0) := by rw [List.getD_eq_getElem?_getD, List.getElem?_eq_getElem hp]; rfl
  obtain ⟨b, hb⟩ : ∃ b, b = bs.getD 0 0 := ⟨_, rfl⟩
  rw [← hb] at hbj hmin
  obtain ⟨S, hS⟩ : ∃ S, S = ByteArray.mk bs.toArray := ⟨_, rfl⟩
  have hix : ∀ W : World, (Instr.index 68 (.string S) (.int .i64 0)).run Tryz.prog W = .ok (.int .u8 (b.toNat : Int)) W := fun W => by
    obtain ⟨hj, e⟩ := List.getElem?_eq_some_iff.1 hbj
    rw [run_index_string _ _ _ _ _ Tryz.underlying68, dif_pos (by subst hS; simp [ByteArray.size]; omega)]
    subst hS
    simp [ByteArray.getElem_eq_getElem_data, e]
  rw [← hS]
  have hbm : ((b.toNat : Int) == 45) = m := by
    rw [← hmin]
    by_cases e : b = 45
    · rw [e]; rfl
    · have h1 : (b == 45) = false := by simpa using e
      rw [h1, beq_eq_false_iff_ne]
      intro h
      exact e (UInt8.toNat_inj.1 (by have : (45 : UInt8).toNat = 45 := rfl; omega))
  clear hS hb hbj hp hmin
  generalize (b.toNat : Int) = z at *
  go_enter Tryz.func138, Tryz.ntmps138
  go_wp2
  go_ret
  exact ⟨by rw [← hbm]; rfl, rfl⟩
theorem plus_same {l1 l2 out : List Int} {m : Bool} (h : dval out = dval l1 + dval l2) : sgZ out m = sgZ l1 m + sgZ l2 m := by cases m <;> simp [sgZ] <;> omega
theorem plus_less {l1 l2 out : List Int} {m1 m2 : Bool} (hne : m1 ≠ m2) (h : dval out = dval l2 - dval l1) : sgZ out m2 = sgZ l1 m1 + sgZ l2 m2 := by cases m1 <;> cases m2 <;> simp [sgZ] at * <;> omega
theorem plus_more {l1 l2 out : List Int} {m1 m2 : Bool} (hne : m1 ≠ m2) (h : dval out = dval l1 - dval l2) : sgZ out m1 = sgZ l1 m1 + sgZ l2 m2 := by cases m1 <;> cases m2 <;> simp [sgZ] at * <;> omega
end Go.Proofs.YtgcnijmmjlfabaaGreatDoor

namespace Go.Proofs.YtgcnijmmjlfabaaGreatDoor
open Go.RowKit Go.Shelf

/-- Whether a text is that of 0, as the walk asks it. -/
theorem zs_zero {S : ByteArray} {z : Int} (h : ZS (.string S) z) : (S.toList == [48]) = decide (z = 0) := by
  obtain ⟨l, m, he, hd, hc, hm, rfl⟩ := h
  simp only [Value.string.injEq] at he
  subst he
  rw [ByteArray.toList_mk]
  have := text_zero hd hc m hm
  by_cases e : sgZ l m = 0
  · rw [decide_eq_true e, this.2 e]; rfl
  · rw [decide_eq_false e]
    have h2 : textL l m ≠ [48] := fun h => e (this.1 h)
    simpa using h2
theorem zs_str {v : Value} {z : Int} (h : ZS v z) : ∃ S, v = .string S ∧ ZS (.string S) z ∧ (S.toList == [48]) = decide (z = 0) := by
  obtain ⟨l, m, rfl, h2⟩ := h
  have h3 : ZS (.string ⟨(textL l m).toArray⟩) z := ⟨l, m, rfl, h2⟩
  exact ⟨_, rfl, h3, zs_zero h3⟩
theorem zMinus2_any (v : Value) (z : Int) (w : World) (h : ZS v z) : Calls Tryz.prog 138 #[v] w fun e w' => e = .returned (.bool (decide (z < 0))) ∧ w = w' := by
  obtain ⟨l, m, rfl, hd, hc, hm, rfl⟩ := h
  rw [sgz_neg hd hc hm]
  exact zMinus_any l m w hd hm
end Go.Proofs.YtgcnijmmjlfabaaGreatDoor

